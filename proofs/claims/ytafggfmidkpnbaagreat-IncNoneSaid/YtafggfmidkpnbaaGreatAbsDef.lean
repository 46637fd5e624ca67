/- The abstract interpreter: values as trees, the heap's changing objects by number. -/
import GoSem.Step
namespace Go.Gm

/-- Frozen values: what nobody will write again. -/
inductive FV where
  | undef
  | bool (b : Bool)
  | int (k : IntKind) (n : Int)
  | str (s : ByteArray)
  | nilp | nilm | nilf | nili
  | fn (f : FuncId)
  | agg (cs : List FV)
  | sl (rows : List (List FV)) (tight : Bool)
  | fp (cs : List FV)
  | tup (vs : List FV)
  deriving Inhabited

/-- Values that may refer to objects. -/
inductive AV where
  | fv (x : FV)
  | ptr (o i j : Nat)
  | osl (o off len : Nat) (app : Bool)
  | map (o : Nat)
  | yld (o : Nat)
  | clo (f : FuncId) (cap : List AV)
  | agg (cs : List AV)
  | tup (vs : List AV)
  deriving Inhabited

/-- frames -/
abbrev Fr := Nat → AV

inductive AObj where
  | dead
  | arr (sz : Nat) (rows : List (List AV)) (closed : Bool)
  | map (es : List (FV × AV))
  | loop (st : LoopState) (pending : Option Code) (n : Nat) (T : Fr) (ps : List Nat) (assign body : Code) (db : Nat)
  | dblk
  deriving Inhabited

inductive ADef where
  | coll (o : Nat)
  | call (f : FuncId) (cap : List AV)
  deriving Inhabited

inductive Tr where
  | lf
  | nd (l : Tr) (v : AObj) (r : Tr)
  deriving Inhabited

noncomputable def nth {α : Type} (l : List α) : Nat → Option α :=
  List.rec (motive := fun _ => Nat → Option α) (fun _ => none) (fun a _ ih i => Nat.rec (motive := fun _ => Option α) (some a) (fun n _ => ih n) i) l
noncomputable def setN {α : Type} (l : List α) : Nat → α → List α :=
  List.rec (motive := fun _ => Nat → α → List α) (fun _ _ => []) (fun a l ih i x => Nat.rec (motive := fun _ => List α) (x :: l) (fun n _ => a :: ih n x) i) l
noncomputable def Tr.get (t : Tr) : Nat → AObj :=
  Tr.rec (motive := fun _ => Nat → AObj) (fun _ => .dead)
    (fun _ v _ gl gr i => bif Nat.beq i 0 then v else bif Nat.beq (i % 2) 1 then gl (i / 2) else gr (i / 2 - 1)) t
noncomputable def Tr.put (n : Nat) : Tr → Nat → AObj → Tr :=
  Nat.rec (motive := fun _ => Tr → Nat → AObj → Tr) (fun t _ _ => t)
    (fun _ ih t i x => Tr.casesOn (motive := fun _ => Tr) t
      (bif Nat.beq i 0 then .nd .lf x .lf else bif Nat.beq (i % 2) 1 then .nd (ih .lf (i / 2) x) .dead .lf else .nd .lf .dead (ih .lf (i / 2 - 1) x))
      (fun l v r => bif Nat.beq i 0 then .nd l x r else bif Nat.beq (i % 2) 1 then .nd (ih l (i / 2) x) v r else .nd l v (ih r (i / 2 - 1) x))) n
noncomputable def frameOf (l : List AV) : Nat → AV :=
  List.rec (motive := fun _ => Nat → AV) (fun _ => .fv .undef) (fun v _ ih i => Nat.rec (motive := fun _ => AV) v (fun n _ => ih n) i) l
noncomputable def lenN {α : Type} (l : List α) : Nat := List.rec (motive := fun _ => Nat) 0 (fun _ _ n => n + 1) l
noncomputable def appN {α : Type} (l m : List α) : List α := List.rec (motive := fun _ => List α) m (fun a _ ih => a :: ih) l
noncomputable def dropN {α : Type} (l : List α) : Nat → List α :=
  List.rec (motive := fun _ => Nat → List α) (fun _ => []) (fun a l ih i => Nat.rec (motive := fun _ => List α) (a :: l) (fun n _ => ih n) i) l
noncomputable def takeN {α : Type} (l : List α) : Nat → List α :=
  List.rec (motive := fun _ => Nat → List α) (fun _ => []) (fun a _ ih i => Nat.rec (motive := fun _ => List α) [] (fun n _ => a :: ih n) i) l
noncomputable def mapN {α β : Type} (f : α → β) (l : List α) : List β := List.rec (motive := fun _ => List β) [] (fun a _ ih => f a :: ih) l
noncomputable def allN {α : Type} (f : α → Bool) (l : List α) : Bool := List.rec (motive := fun _ => Bool) true (fun a _ ih => f a && ih) l
noncomputable def mapO {α β : Type} (f : α → Option β) (l : List α) : Option (List β) :=
  List.rec (motive := fun _ => Option (List β)) (some []) (fun a _ ih => match f a with | some x => (match ih with | some xs => some (x :: xs) | none => none) | none => none) l
noncomputable def splice {α : Type} (l : List α) : Nat → List α → List α :=
  List.rec (motive := fun _ => Nat → List α → List α) (fun _ _ => [])
    (fun a l ih j xs => List.casesOn (motive := fun _ => List α) xs (a :: l) (fun x xs' => Nat.rec (motive := fun _ => List α) (x :: ih 0 xs') (fun n _ => a :: ih n (x :: xs')) j)) l
noncomputable def rep {α : Type} (x : α) (n : Nat) : List α :=
  Nat.rec (motive := fun _ => List α) [] (fun _ ih => x :: ih) n
noncomputable def eraseN {α : Type} (l : List α) : Nat → List α :=
  List.rec (motive := fun _ => Nat → List α) (fun _ => []) (fun a l ih i => Nat.rec (motive := fun _ => List α) l (fun n _ => a :: ih n) i) l
noncomputable def iter {α β : Type} (body : α → Option (Bool × β × α)) (n : Nat) : α → Option (β × α) :=
  Nat.rec (motive := fun _ => α → Option (β × α)) (fun _ => none) (fun _ ih s => match body s with
    | some (true, _, s') => ih s'
    | some (false, b, s') => some (b, s')
    | none => none) n
noncomputable def natRec {α : Type} (z : α) (f : α → α) (n : Nat) : α := Nat.rec (motive := fun _ => α) z (fun _ ih => f ih) n

structure Heap where
  t : Tr
  n : Nat
  deriving Inhabited
noncomputable def Heap.get (H : Heap) (o : Nat) : AObj := H.t.get o
noncomputable def Heap.set (H : Heap) (o : Nat) (x : AObj) : Heap := { t := Tr.put 64 H.t o x, n := H.n }
noncomputable def instN (objs : List AObj) (H : Heap) (b : Nat) : Heap :=
  match objs with
  | [] => H
  | x :: l => instN l (H.set b x) (b + 1)
def noHeap : Heap := { t := .lf, n := 0 }
/-- new objects behind the others -/
noncomputable def Heap.push (H : Heap) (objs : List AObj) : Option Heap :=
  match objs with
  | [] => some H
  | _ => bif Nat.ble (H.n + lenN objs) 1152921504606846976 then some { t := (instN objs H H.n).t, n := H.n + lenN objs } else none

/-! constants -/
def FV.one : FV → Bool
  | .undef | .tup _ | .agg _ => false
  | _ => true
def AV.one : AV → Bool
  | .fv x => x.one
  | .agg _ | .tup _ => false
  | _ => true
mutual
noncomputable def constFV : Nat → Value → Option FV
  | 0, _ => none
  | n + 1, v => match v with
    | .bool b => some (.bool b)
    | .int k i => some (.int k i)
    | .string s => some (.str s)
    | .pointer none => some .nilp
    | .slice _ 0 0 => some (.sl [] true)
    | .map none => some .nilm
    | .nilFunc => some .nilf
    | .nilIface => some .nili
    | .agg cs => (match constFVs n cs.toList with
      | some xs => bif allN FV.one xs then some (.agg xs) else none
      | none => none)
    | _ => none
noncomputable def constFVs : Nat → List Value → Option (List FV)
  | _, [] => some []
  | 0, _ => none
  | n + 1, v :: vs => match constFV n v with
    | none => none
    | some x => (constFVs n vs).map (x :: ·)
end
def maxConst : Nat := 100000

/-! types -/
def tsz (P : Program) (t : TypeId) : Option Nat := (P.info? t).map (·.size)
def tagg (P : Program) (t : TypeId) : Option Bool :=
  match P.underlying t with
  | some (.struct _) => some true
  | some (.array _ _) => some true
  | some _ => some false
  | none => none
noncomputable def tzero (P : Program) (t : TypeId) : Option FV :=
  match P.info? t with
  | some i => match i.zero with
    | some v => constFV maxConst v
    | none => none
  | none => none

def FV.cells : FV → List FV
  | .agg cs => cs
  | x => [x]
noncomputable def AV.cells : AV → List AV
  | .agg cs => cs
  | .fv (.agg cs) => mapN .fv cs
  | x => [x]
def AV.fv? : AV → Option FV
  | .fv x => some x
  | _ => none
noncomputable def allFV (l : List AV) : Option (List FV) := mapO AV.fv? l
noncomputable def allRows (l : List (List AV)) : Option (List (List FV)) := mapO allFV l
noncomputable def mkAgg (cs : List AV) : AV := match allFV cs with | some xs => .fv (.agg xs) | none => .agg cs
noncomputable def mkTup (cs : List AV) : AV := match allFV cs with | some xs => .fv (.tup xs) | none => .tup cs
noncomputable def fvRow (r : List FV) : List AV := mapN .fv r
noncomputable def fvRows (rows : List (List FV)) : List (List AV) := mapN fvRow rows

/-! being the same -/
def kn : IntKind → Nat
  | .i8 => 0 | .i16 => 1 | .i32 => 2 | .i64 => 3 | .u8 => 4 | .u16 => 5 | .u32 => 6 | .u64 => 7
def kindEq (a b : IntKind) : Bool := Nat.beq (kn a) (kn b)
def beqI (a b : Int) : Bool :=
  match a with
  | .ofNat m => (match b with | .ofNat n => Nat.beq m n | _ => false)
  | .negSucc m => (match b with | .negSucc n => Nat.beq m n | _ => false)
noncomputable def beqL {α : Type} (f : α → α → Bool) : List α → List α → Bool
  | [], m => (match m with | [] => true | _ => false)
  | a :: l, m => (match m with | b :: m => f a b && beqL f l m | [] => false)
/-- to some depth -/
noncomputable def beqF : Nat → FV → FV → Bool
  | 0 => fun _ _ => false
  | n + 1 => fun x y => match x with
    | .undef => (match y with | .undef => true | _ => false)
    | .bool a => (match y with | .bool b => a == b | _ => false)
    | .int k a => (match y with | .int k' b => kindEq k k' && beqI a b | _ => false)
    | .str a => (match y with | .str b => beqL (fun x y => Nat.beq x.toNat y.toNat) a.data.toList b.data.toList | _ => false)
    | .nilp => (match y with | .nilp => true | _ => false)
    | .nilm => (match y with | .nilm => true | _ => false)
    | .nilf => (match y with | .nilf => true | _ => false)
    | .nili => (match y with | .nili => true | _ => false)
    | .fn f => (match y with | .fn g => Nat.beq f g | _ => false)
    | .agg a => (match y with | .agg b => beqL (beqF n) a b | _ => false)
    | .sl a t => (match y with | .sl b u => (t == u) && beqL (beqL (beqF n)) a b | _ => false)
    | .fp a => (match y with | .fp b => beqL (beqF n) a b | _ => false)
    | .tup a => (match y with | .tup b => beqL (beqF n) a b | _ => false)
noncomputable def beqA : Nat → AV → AV → Bool
  | 0 => fun _ _ => false
  | n + 1 => fun x y => match x with
    | .fv a => (match y with | .fv b => beqF n a b | _ => false)
    | .ptr a b c => (match y with | .ptr d e f => Nat.beq a d && Nat.beq b e && Nat.beq c f | _ => false)
    | .osl a b c d => (match y with | .osl e f g h => Nat.beq a e && Nat.beq b f && Nat.beq c g && (d == h) | _ => false)
    | .map a => (match y with | .map b => Nat.beq a b | _ => false)
    | .yld a => (match y with | .yld b => Nat.beq a b | _ => false)
    | .clo f a => (match y with | .clo g b => Nat.beq f g && beqL (beqA n) a b | _ => false)
    | .agg a => (match y with | .agg b => beqL (beqA n) a b | _ => false)
    | .tup a => (match y with | .tup b => beqL (beqA n) a b | _ => false)

/-! numbers -/
def wrapF (k : IntKind) (n : Int) : Int :=
  match n with
  | .ofNat m => bif Nat.blt m 128 then .ofNat m else k.wrap (.ofNat m)
  | .negSucc m => k.wrap (.negSucc m)

/-! equality -/
noncomputable def partOf (ag : Bool) (cs : List FV) (off size : Nat) : Option FV :=
  match ag with
  | true => some (.agg (takeN (dropN cs off) size))
  | false => nth cs off
noncomputable def eqFields (P : Program) (eq : TypeId → FV → FV → Option Bool) : List Field → List FV → List FV → Option Bool
  | [] => fun _ _ => some true
  | f :: fs => if f.name = "_" then eqFields P eq fs else
    match tsz P f.type, tagg P f.type with
    | some n, some ag => fun xs ys => match partOf ag xs f.offset n, partOf ag ys f.offset n with
      | some a, some b => match eq f.type a b with
        | some true => eqFields P eq fs xs ys
        | some false => some false
        | none => none
      | _, _ => none
    | _, _ => fun _ _ => none
noncomputable def eqElems (eq : FV → FV → Option Bool) (n : Nat) (ag : Bool) : Nat → Nat → List FV → List FV → Option Bool
  | 0, _ => fun _ _ => some true
  | l + 1, i => fun xs ys => match partOf ag xs (i * n) n, partOf ag ys (i * n) n with
    | some a, some b => match eq a b with
      | some true => eqElems eq n ag l (i + 1) xs ys
      | some false => some false
      | none => none
    | _, _ => none
noncomputable def eqFV (P : Program) : Nat → TypeId → FV → FV → Option Bool
  | 0, _ => fun _ _ => none
  | d + 1, t =>
    match P.underlying t with
    | some .bool => fun x y => match x, y with | .bool a, .bool b => some (a == b) | _, _ => none
    | some (.int _) => fun x y => match x, y with | .int k a, .int k' b => bif kindEq k k' then some (a == b) else none | _, _ => none
    | some .string => fun x y => match x, y with | .str a, .str b => some (a.data.toList == b.data.toList) | _, _ => none
    | some (.struct fields) => match P.stoodInHeld t with
      | true => fun _ _ => none
      | false => fun x y => match x, y with
        | .agg xs, .agg ys => eqFields P (eqFV P d) fields.toList xs ys
        | _, _ => none
    | some (.array len elem) => match tsz P elem, tagg P elem with
      | some n, some ag => fun x y => match x, y with
        | .agg xs, .agg ys => eqElems (eqFV P d elem) n ag len 0 xs ys
        | _, _ => none
      | _, _ => fun _ _ => none
    | _ => fun _ _ => none
def eqDepth : Nat := 10000

def isNilP (x : AV) : Option Bool :=
  match x with
  | .fv .nilp => some true
  | .fv (.fp _) => some false
  | .ptr _ _ _ => some false
  | _ => none
def isNilM (x : AV) : Option Bool :=
  match x with
  | .fv .nilm => some true
  | .map _ => some false
  | _ => none
def nilBoth (f : AV → Option Bool) (x y : AV) : Option Bool :=
  match f x with
  | none => none
  | some a => (match f y with
    | none => none
    | some b => bif a || b then some (a && b) else none)

noncomputable def eqAV (P : Program) (t : TypeId) : AV → AV → Option Bool :=
  match P.underlying t with
  | some (.struct _) | some (.array _ _) => match P.eqGuardType P.depth t with
    | true => fun _ _ => none
    | false => fun x y => match x, y with
      | .fv a, .fv b => eqFV P eqDepth t a b
      | _, _ => none
  | some .bool => fun x y => match x, y with
      | .fv (.bool a), .fv (.bool b) => some (a == b)
      | _, _ => none
  | some (.pointer _) => nilBoth isNilP
  | some (.map _ _) => nilBoth isNilM
  | _ => fun _ _ => none

abbrev Bin := AV → AV → Option FV
def binI (f : IntKind → Int → Int → Option FV) : Bin := fun x y =>
  match x, y with
  | .fv (.int k a), .fv (.int k' b) => bif kindEq k k' then f k a b else none
  | _, _ => none
noncomputable def binE (P : Program) (t : TypeId) (neg : Bool) : Bin := fun x y =>
  match x with
  | .fv (.int k a) => (match y with | .fv (.int k' b) => bif kindEq k k' then some (.bool (xor neg (a == b))) else none | _ => none)
  | .fv (.str a) => (match y with | .fv (.str b) => some (.bool (xor neg (a.data.toList == b.data.toList))) | _ => none)
  | _ => match eqAV P t x y with
    | some b => some (.bool (xor neg b))
    | none => none
def binSh (f : IntKind → Int → Nat → FV) : Bin := fun x y =>
  match x, y with
  | .fv (.int k a), .fv (.int _ (.ofNat b)) => some (f k a b)
  | _, _ => none
noncomputable def binS (P : Program) (op : BinOp) (t : TypeId) : Bin :=
  match op with
  | .add => binI fun k a b => some (.int k (wrapF k (a + b)))
  | .sub => binI fun k a b => some (.int k (wrapF k (a - b)))
  | .mul => binI fun k a b => some (.int k (wrapF k (a * b)))
  | .quo => binI fun k a b => match b with | .ofNat 0 => none | _ => some (.int k (wrapF k (a.tdiv b)))
  | .rem => binI fun k a b => match b with | .ofNat 0 => none | _ => some (.int k (a.tmod b))
  | .and => binI fun k a b => some (.int k (k.wrap (BitVec.ofInt k.bits a &&& BitVec.ofInt k.bits b).toNat))
  | .or => binI fun k a b => some (.int k (k.wrap (BitVec.ofInt k.bits a ||| BitVec.ofInt k.bits b).toNat))
  | .xor => binI fun k a b => some (.int k (k.wrap (BitVec.ofInt k.bits a ^^^ BitVec.ofInt k.bits b).toNat))
  | .shl => binSh fun k a b => .int k (k.wrap (a * 2 ^ (min b k.bits)))
  | .shr => binSh fun k a b => .int k (a.fdiv (2 ^ (min b k.bits)))
  | .eql => binE P t false
  | .neq => binE P t true
  | .lss => binI fun _ a b => some (.bool (decide (a < b)))
  | .leq => binI fun _ a b => some (.bool (decide (a ≤ b)))
  | .gtr => binI fun _ a b => some (.bool (decide (a > b)))
  | .geq => binI fun _ a b => some (.bool (decide (a ≥ b)))
  | _ => fun _ _ => none

def unS (op : UnOp) : AV → Option FV :=
  match op with
  | .not => fun x => match x with | .fv (.bool b) => some (.bool (!b)) | _ => none
  | .neg => fun x => match x with | .fv (.int k n) => some (.int k (wrapF k (0 - n))) | _ => none
  | _ => fun _ => none

def asNat (x : AV) : Option Nat := match x with
  | .fv (.int _ (.ofNat n)) => some n
  | _ => none

/-! memory -/
noncomputable def cut {α : Type} (l : List α) (j size : Nat) : Option (List α) :=
  let c := takeN (dropN l j) size
  bif Nat.beq (lenN c) size then some c else none
noncomputable def loadS (P : Program) (t : TypeId) : AV → Heap → Option AV :=
  match tagg P t with
  | some true => match tsz P t with
    | some size => fun a H => match a with
      | .fv (.fp cs) => (match cut cs 0 size with | some c => some (.fv (.agg c)) | none => none)
      | .ptr o i j => (match H.get o with
        | .arr _ rows _ => (match nth rows i with
          | some row => (match cut row j size with | some c => some (mkAgg c) | none => none)
          | none => none)
        | _ => none)
      | _ => none
    | none => fun _ _ => none
  | some false => fun a H => match a with
      | .fv (.fp cs) => (match nth cs 0 with | some x => some (.fv x) | none => none)
      | .ptr o i j => (match H.get o with
        | .arr _ rows _ => (match nth rows i with
          | some row => nth row j
          | none => none)
        | _ => none)
      | _ => none
  | none => fun _ _ => none

noncomputable def allOne (cs : List AV) : Bool := allN AV.one cs

noncomputable def storeS (P : Program) (t : TypeId) : AV → AV → Heap → Option Heap :=
  match tsz P t with
  | some size => fun a v H => match a with
    | .ptr o i j => (match H.get o with
      | .arr sz rows cl => (match nth rows i with
        | some row => let c := v.cells
          bif Nat.beq (lenN c) size && Nat.ble (j + size) (lenN row) && allOne c then some (H.set o (.arr sz (setN rows i (splice row j c)) cl)) else none
        | none => none)
      | _ => none)
    | _ => none
  | none => fun _ _ _ => none

noncomputable def fieldOff (P : Program) (s : TypeId) (f : Nat) : Option (Nat × TypeId) :=
  match P.underlying s with
  | some (.struct fields) => match nth fields.toList f with | some x => some (x.offset, x.type) | none => none
  | _ => none
noncomputable def fieldAddrS (P : Program) (s : TypeId) (f : Nat) : AV → Option AV :=
  match fieldOff P s f with
  | some (off, t) => (match tsz P t with
    | some (_ + 1) => fun x => match x with
      | .ptr o i j => some (.ptr o i (j + off))
      | .fv (.fp cs) => some (.fv (.fp (dropN cs off)))
      | _ => none
    | _ => fun _ => none)
  | none => fun _ => none
noncomputable def partS (P : Program) (t : TypeId) : List AV → Nat → Option AV :=
  match tagg P t with
  | some true => match tsz P t with
    | some size => fun cs off => match cut cs off size with | some c => some (mkAgg c) | none => none
    | none => fun _ _ => none
  | some false => fun cs off => nth cs off
  | none => fun _ _ => none
noncomputable def fieldS (P : Program) (s : TypeId) (f : Nat) : AV → Option AV :=
  match fieldOff P s f with
  | some (off, t) => fun x => match x with
    | .agg cs => partS P t cs off
    | .fv (.agg cs) => partS P t (mapN .fv cs) off
    | _ => none
  | none => fun _ => none
noncomputable def indexAddrS (P : Program) (t : TypeId) : AV → AV → Heap → Option AV :=
  match P.underlying t with
  | some (.slice e) => match tsz P e with
    | some esz => fun x i H => match asNat i with
      | none => none
      | some k => match x with
        | .osl o off len _ => (match H.get o with
          | .arr sz _ _ => bif Nat.blt k len && Nat.beq sz esz then some (.ptr o (off + k) 0) else none
          | _ => none)
        | .fv (.sl rows _) => (match nth rows k with
          | some row => bif Nat.beq (lenN row) esz then some (.fv (.fp row)) else none
          | none => none)
        | _ => none
    | none => fun _ _ _ => none
  | some (.array n e) => match tsz P e with
    | some esz => fun x i _ => match asNat i with
      | none => none
      | some k => bif Nat.blt k n then (match x with
        | .ptr o i j => some (.ptr o i (j + k * esz))
        | .fv (.fp cs) => some (.fv (.fp (dropN cs (k * esz))))
        | _ => none) else none
    | none => fun _ _ _ => none
  | _ => fun _ _ _ => none
noncomputable def indexS (P : Program) (t : TypeId) : AV → AV → Option AV :=
  match P.underlying t with
  | some (.array n e) => match tsz P e with
    | some esz => fun x i => match asNat i, x with
      | some k, .fv (.agg cs) => bif Nat.blt k n then partS P e (mapN .fv cs) (k * esz) else none
      | _, _ => none
    | none => fun _ _ => none
  | some .string => fun x i => match asNat i, x with
      | some k, .fv (.str s) => (match nth s.data.toList k with | some b => some (.fv (.int .u8 b.toNat)) | none => none)
      | _, _ => none
  | _ => fun _ _ => none

noncomputable def fillS (place : Nat → Option (Nat × Nat)) : List (Nat × (Fr → AV)) → Fr → List AV → Option (List AV)
  | [] => fun _ cells => some cells
  | (i, f) :: rest => match place i with
    | none => fun _ _ => none
    | some (off, size) => fun T cells => let c := (f T).cells
      bif Nat.beq (lenN c) size && Nat.ble (off + size) (lenN cells) && allOne c then fillS place rest T (splice cells off c) else none
def placesOf (P : Program) : List Field → Option (List (Nat × Nat))
  | [] => some []
  | f :: fs => match tsz P f.type, placesOf P fs with
    | some n, some l => some ((f.offset, n) :: l)
    | _, _ => none
noncomputable def buildS (P : Program) (t : TypeId) (parts : List (Nat × (Fr → AV))) : Fr → Option AV :=
  match tzero P t with
  | some (.agg z) =>
    match P.underlying t with
    | some (.struct fields) => (match placesOf P fields.toList with
      | some places => fun T =>
        match fillS (nth places) parts T (mapN .fv z) with
        | some c => some (mkAgg c)
        | none => none
      | none => fun _ => none)
    | some (.array _ e) => (match tsz P e with
      | some esz => fun T => match fillS (fun i => some (i * esz, esz)) parts T (mapN .fv z) with
        | some c => some (mkAgg c)
        | none => none
      | none => fun _ => none)
    | _ => fun _ => none
  | _ => fun _ => none

noncomputable def zeroCells (P : Program) (e : TypeId) : Option (Nat × List AV) :=
  match tzero P e, tsz P e with
  | some z, some esz => let c := mapN .fv z.cells
    bif Nat.beq (lenN c) esz && Nat.blt 0 esz && allOne c then some (esz, c) else none
  | _, _ => none

noncomputable def litRows (esz : Nat) : List (Nat × (Fr → AV)) → Fr → List (List AV) → Option (List (List AV))
  | [] => fun _ rows => some rows
  | (i, f) :: rest => fun T rows => let c := (f T).cells
    bif Nat.beq (lenN c) esz && Nat.blt i (lenN rows) && allOne c then litRows esz rest T (setN rows i c) else none
/-- a slice's literal -/
noncomputable def buildSliceS (P : Program) (own : Bool) (t : TypeId) (len : Nat) (parts : List (Nat × (Fr → AV))) : Fr → Nat → Option (AV × List AObj) :=
  match P.underlying t with
  | some (.slice e) => match zeroCells P e with
    | some (esz, z) => bif Nat.ble (len * esz) 16777216 then fun T b =>
        match litRows esz parts T (rep z len) with
        | some rows => (match (match own with | true => none | false => allRows rows) with
          | some fr => some (.fv (.sl fr true), [])
          | none => some (.osl b 0 len true, [.arr esz rows true]))
        | none => none
      else fun _ _ => none
    | none => fun _ _ => none
  | _ => fun _ _ => none

noncomputable def firstOk (esz : Nat) (rows : List (List FV)) : Bool := match rows with
  | r :: _ => Nat.beq (lenN r) esz
  | [] => true
def loOf (x : Option AV) (d : Nat) : Option Nat := match x with
  | some l => asNat l
  | none => some d
/-- x[l:h], x[l:h:m] -/
noncomputable def sliceS (P : Program) (t : TypeId) : AV → Option AV → Option AV → Option AV → Heap → Option AV :=
  match P.underlying t with
  | some (.slice e) => (match tsz P e with
    | some esz => fun x lo hi mx H =>
      match x with
      | .osl o off len app =>
        (match loOf hi len, loOf lo 0, H.get o with
        | some h, some l, .arr sz rows _ =>
          let room := bif app then lenN rows - off else len
          (match mx with
          | none => bif Nat.beq sz esz && Nat.ble l h && (Nat.ble h len || Nat.ble h room) then (bif Nat.blt 0 l && Nat.beq h l then some (.fv (.sl [] false)) else some (.osl o (off + l) (h - l) app)) else none
          | some m => (match hi, asNat m with
            | some _, some m => bif Nat.beq sz esz && Nat.ble l h && Nat.ble h m && (Nat.ble m len || Nat.ble m room) then (bif Nat.beq h l then some (.fv (.sl [] (Nat.beq h m))) else some (.osl o (off + l) (h - l) false)) else none
            | _, _ => none))
        | _, _, _ => none)
      | .fv (.sl rows tight) =>
        bif firstOk esz rows then
        (match loOf hi (lenN rows), loOf lo 0 with
        | some h, some l =>
          (match mx with
          | none => bif Nat.ble l h && Nat.ble h (lenN rows) then some (.fv (.sl (takeN (dropN rows l) (h - l)) (tight && Nat.beq h (lenN rows)))) else none
          | some m => (match hi, asNat m with
            | some _, some m => bif Nat.ble l h && Nat.ble h m && Nat.ble m (lenN rows) then some (.fv (.sl (takeN (dropN rows l) (h - l)) (Nat.beq h m))) else none
            | _, _ => none))
        | _, _ => none) else none
      | _ => none
    | none => fun _ _ _ _ _ => none)
  | _ => fun _ _ _ _ _ => none

def convS (P : Program) (src dst : TypeId) : AV → Option AV :=
  match P.underlying src, P.underlying dst with
  | some _, some (.int k) => fun x => match x with | .fv (.int _ n) => some (.fv (.int k (wrapF k n))) | _ => none
  | _, _ => fun _ => none
def nilCheckA (x : AV) : Option AV :=
  match x with
  | .ptr _ _ _ => some x
  | .fv (.fp _) => some x
  | .clo _ _ => some x
  | .fv (.fn _) => some x
  | _ => none

/-! maps -/
/-- is it a key that can be compared -/
noncomputable def keyFit (P : Program) (t : TypeId) : Option (FV → Bool) :=
  match P.underlying t with
  | some (.int _) => some fun _ => true
  | some .string => some fun _ => true
  | some .bool => some fun _ => true
  | some (.array n e) => (match P.underlying e, tsz P e with
    | some (.int _), some 1 => some fun k => (match k with | .agg cs => Nat.beq n (lenN cs) | _ => false)
    | _, _ => none)
  | _ => none
noncomputable def findKey (eq : FV → FV → Option Bool) (k : FV) (es : List (FV × AV)) : Nat → Option (Option (Nat × AV)) :=
  match es with
  | [] => fun _ => some none
  | (k', v) :: es => fun i => match eq k k' with
    | some true => some (some (i, v))
    | some false => findKey eq k es (i + 1)
    | none => none
noncomputable def mapOf (m : AV) (H : Heap) : Option (List (FV × AV)) :=
  match m with
  | .fv .nilm => some []
  | .map o => (match H.get o with | .map es => some es | _ => none)
  | _ => none
noncomputable def lookupS (P : Program) (t : TypeId) (ok : Bool) : AV → AV → Heap → Option AV :=
  match P.underlying t with
  | some (.map kt e) => (match keyFit P kt, tzero P e with
    | some fit, some z => fun m k H => match k with
      | .fv kv => bif fit kv then (match mapOf m H with
        | none => none
        | some es => (match findKey (eqFV P eqDepth kt) kv es 0 with
          | none => none
          | some r => (match r with
            | some (_, v) => some (match ok with | true => mkTup [v, .fv (.bool true)] | false => v)
            | none => some (match ok with | true => .fv (.tup [z, .bool false]) | false => .fv z)))) else none
      | _ => none
    | _, _ => fun _ _ _ => none)
  | _ => fun _ _ _ => none
noncomputable def mapUpdateS (P : Program) (t : TypeId) : AV → AV → AV → Heap → Option Heap :=
  match P.underlying t with
  | some (.map kt _) => (match keyFit P kt with
    | some fit => fun m k v H => match m, k with
      | .map o, .fv kv => bif fit kv then (match H.get o with
        | .map es => (match findKey (eqFV P eqDepth kt) kv es 0 with
          | some (some (i, _)) => (match nth es i with
            | some (k', _) => bif fit k' then some (H.set o (.map (setN es i (kv, v)))) else none
            | none => none)
          | some none => some (H.set o (.map (appN es [(kv, v)])))
          | none => none)
        | _ => none) else none
      | _, _ => none
    | none => fun _ _ _ _ => none)
  | _ => fun _ _ _ _ => none
noncomputable def deleteS (P : Program) (t : TypeId) : AV → AV → Heap → Option Heap :=
  match P.underlying t with
  | some (.map kt _) => (match keyFit P kt with
    | some fit => fun m k H => match m, k with
      | .fv .nilm, .fv kv => bif fit kv then some H else none
      | .map o, .fv kv => bif fit kv then (match H.get o with
        | .map es => (match findKey (eqFV P eqDepth kt) kv es 0 with
          | some (some (i, _)) => some (H.set o (.map (eraseN es i)))
          | some none => some H
          | none => none)
        | _ => none) else none
      | _, _ => none
    | none => fun _ _ _ => none)
  | _ => fun _ _ _ => none

noncomputable def lenS (P : Program) (t : TypeId) : AV → Heap → Option FV :=
  match P.underlying t with
  | some .string => fun x _ => match x with | .fv (.str s) => some (.int .i64 (.ofNat s.size)) | _ => none
  | some (.array n _) => fun _ _ => some (.int .i64 (.ofNat n))
  | some (.slice _) => fun x _ => match x with
    | .osl _ _ len _ => some (.int .i64 (.ofNat len))
    | .fv (.sl rows _) => some (.int .i64 (.ofNat (lenN rows)))
    | _ => none
  | some (.map _ _) => fun x H => match x with
    | .fv .nilm => some (.int .i64 (.ofNat 0))
    | .map o => (match H.get o with | .map es => some (.int .i64 (.ofNat (lenN es))) | _ => none)
    | _ => none
  | some (.pointer a) => match P.underlying a with | some (.array n _) => fun _ _ => some (.int .i64 (.ofNat n)) | _ => fun _ _ => none
  | _ => fun _ _ => none
noncomputable def capS (P : Program) (t : TypeId) : AV → Heap → Option FV :=
  match P.underlying t with
  | some (.slice _) => fun x H => match x with
    | .fv (.sl rows true) => some (.int .i64 (.ofNat (lenN rows)))
    | .osl o off _ true => (match H.get o with
      | .arr _ rows true => some (.int .i64 (.ofNat (lenN rows - off)))
      | _ => none)
    | _ => none
  | _ => fun _ _ => none
def maxA (x y : AV) : Option AV := match x, y with
  | .fv (.int k a), .fv (.int k' b) => bif kindEq k k' then some (.fv (.int k (if b > a then b else a))) else none
  | _, _ => none
def minA (x y : AV) : Option AV := match x, y with
  | .fv (.int k a), .fv (.int k' b) => bif kindEq k k' then some (.fv (.int k (if b < a then b else a))) else none
  | _, _ => none
/-- the rows of a slice -/
noncomputable def rowsOf (x : AV) (H : Heap) : Option (List (List AV)) :=
  match x with
  | .fv (.sl rows _) => some (fvRows rows)
  | .osl o off len _ => (match H.get o with
    | .arr _ rows _ => cut rows off len
    | _ => none)
  | _ => none
noncomputable def okRows (esz : Nat) (rows : List (List AV)) : Bool := allN (fun r => Nat.beq (lenN r) esz) rows
def fits (bytes need : Nat) : Bool := Nat.ble ((4 * need + 4096) * bytes) 281474976710656 && Nat.ble need 1099511627776

/-- append to a slice without spare room: a new object -/
noncomputable def appendN (esz bytes : Nat) (s : AV) (xs : List (List AV)) (b : Nat) : Option (AV × List AObj) :=
  match s with
  | .fv (.sl rows true) =>
    (match xs with
    | [] => some (s, [])
    | _ => let r := appN (fvRows rows) xs
      bif okRows esz r && fits bytes (lenN r) then some (.osl b 0 (lenN r) true, [.arr esz r false]) else none)
  | _ => none
/-- append to an object's slice -/
noncomputable def appendE (esz bytes : Nat) (s : AV) (xs : List (List AV)) (H : Heap) : Option (AV × Heap) :=
  match s with
  | .osl o off len true => (match H.get o with
    | .arr sz rows closed =>
      bif Nat.beq sz esz && okRows esz xs then
        (match xs with
        | [] => some (s, H)
        | _ =>
          let n := off + len + lenN xs
          bif Nat.ble n (lenN rows) then some (.osl o off (len + lenN xs) true, H.set o (.arr sz (splice rows (off + len) xs) closed))
          else (match cut rows off len with
            | none => none
            | some old =>
              let r := appN old xs
              bif fits bytes (lenN r) then
                (match (bif closed then H else H.set o .dead).push [.arr esz r false] with
                | some H' => some (.osl H.n 0 (lenN r) true, H')
                | none => none)
              else none))
      else none
    | _ => none)
  | _ => none
/-- what is appended: rows of a slice, or so many zeros -/
noncomputable def appSrc (P : Program) (e xt : TypeId) : AV → Heap → Option (List (List AV)) :=
  match P.underlying xt with
  | some (.int _) => (match zeroCells P e, P.info? e with
    | some (_, z), some i => fun x _ => match asNat x with
      | some n => bif Nat.ble n 1073741824 && Nat.ble (n * i.bytes) 281474976710656 then some (rep z n) else none
      | none => none
    | _, _ => fun _ _ => none)
  | some (.slice _) => rowsOf
  | _ => fun _ _ => none
noncomputable def appInfo (P : Program) (t : TypeId) : Option (TypeId × Nat × Nat) :=
  match P.underlying t with
  | some (.slice e) => (match P.info? e, zeroCells P e with
    | some i, some _ => some (e, i.size, i.bytes)
    | _, _ => none)
  | _ => none

noncomputable def copyS (P : Program) (t : TypeId) : AV → AV → Heap → Option (AV × Heap) :=
  match P.underlying t with
  | some (.slice e) => match tsz P e with
    | some esz => fun dst src H => match rowsOf src H with
      | some xs => (match dst with
        | .fv (.sl rows _) => bif Nat.beq (min (lenN xs) (lenN rows)) 0 then some (.fv (.int .i64 0), H) else none
        | .osl o off len _ => (match H.get o with
          | .arr sz rows cl =>
            let n := min (lenN xs) len
            let ys := takeN xs n
            bif Nat.beq sz esz && okRows esz xs && Nat.ble (off + n) (lenN rows) then some (.fv (.int .i64 (.ofNat n)), H.set o (.arr sz (splice rows off ys) cl)) else none
          | _ => none)
        | _ => none)
      | none => none
    | none => fun _ _ _ => none
  | _ => fun _ _ _ => none
noncomputable def clearS (P : Program) (t : TypeId) : AV → Heap → Option Heap :=
  match P.underlying t with
  | some (.slice e) => match zeroCells P e with
    | some (esz, z) => fun x H => match x with
      | .fv (.sl [] _) => some H
      | .osl o off len _ => (match H.get o with
        | .arr sz rows cl => bif Nat.beq sz esz && Nat.ble (off + len) (lenN rows) then some (H.set o (.arr sz (splice rows off (rep z len)) cl)) else none
        | _ => none)
      | _ => none
    | none => fun _ _ => none
  | _ => fun _ _ => none

/-! operands -/
noncomputable def evO (n : Nat) (x : Operand) : Option (Fr → AV) :=
  match x with
  | .tmp t => bif Nat.blt t n then some (fun T => T t) else none
  | .const v => match constFV maxConst v with
    | some c => some (fun _ => .fv c)
    | none => none
  | .global _ => none
  | .func f => some (fun _ => .fv (.fn f))
noncomputable def evOs (n : Nat) : List Operand → Option (List (Fr → AV))
  | [] => some []
  | x :: l => match evO n x, evOs n l with
    | some f, some fs => some (f :: fs)
    | _, _ => none
noncomputable def evParts (n : Nat) : List (Nat × Operand) → Option (List (Nat × (Fr → AV)))
  | [] => some []
  | (i, x) :: l => match evO n x, evParts n l with
    | some f, some fs => some ((i, f) :: fs)
    | _, _ => none
def evAll : List (Fr → AV) → Fr → List AV
  | [] => fun _ => []
  | f :: fs => fun T => f T :: evAll fs T
noncomputable def evOpt (n : Nat) (x : Option Operand) : Option (Fr → Option AV) :=
  match x with
  | none => some (fun _ => none)
  | some x => match evO n x with
    | some f => some (fun T => some (f T))
    | none => none

/-- what a run of a function, of a round, tells -/
structure Fns where
  pf : FuncId → List AV → Option (AV × List AObj)          -- a function that is handed no object: its new objects, by numbers from 0 on
  fn : FuncId → List AV → Heap → Option (AV × Heap)
  yl : Nat → List AV → Heap → Option (AV × Heap)

structure Opts where
  own : TypeId → Bool                                       -- slice types whose literals are objects
  ownMake : TypeId → Bool                                   -- slice types that 'make' makes as objects
  sumN : FuncId → Option (List AV → Heap → Nat → Option (AV × List AObj))   -- summaries that turn nothing
  sumR : FuncId → List AV → Heap → List Nat                 -- what these read
  sumE : FuncId → Option (List AV → Heap → Option (AV × Heap))
  reco : FuncId → Bool                                      -- deferred functions that do nothing but look for a panic

/-! shifting -/
noncomputable def shiftAV (k : Nat) : AV → AV
  | .fv x => .fv x
  | .ptr o i j => .ptr (o + k) i j
  | .osl o off len app => .osl (o + k) off len app
  | .map o => .map (o + k)
  | .yld o => .yld (o + k)
  | .clo f cap => .clo f (shifts k cap)
  | .agg cs => .agg (shifts k cs)
  | .tup cs => .tup (shifts k cs)
where
  shifts (k : Nat) : List AV → List AV
    | [] => []
    | v :: l => shiftAV k v :: shifts k l
noncomputable def shiftObj (k : Nat) (x : AObj) : AObj :=
  match x with
  | .arr sz rows cl => .arr sz (mapN (shiftAV.shifts k) rows) cl
  | .map es => .map (mapN (fun e => (e.1, shiftAV k e.2)) es)
  | _ => .dead

def isFV (x : AV) : Bool := match x with | .fv _ => true | _ => false

/-- operations that turn no object: the value, new objects with the numbers from b on -/
abbrev NOp := Fr → Heap → Nat → Option (AV × List AObj)
def nFail : NOp := fun _ _ _ => none
def nFV (f : Fr → Heap → Option FV) : NOp := fun T H _ => match f T H with | some v => some (.fv v, []) | none => none
def nAV (f : Fr → Heap → Option AV) : NOp := fun T H _ => match f T H with | some v => some (v, []) | none => none

noncomputable def pureCall (K : Fns) (f : FuncId) (args : List AV) (b : Nat) : Option (AV × List AObj) :=
  match K.pf f args with
  | some (v, []) => some (shiftAV b v, [])
  | some (v, objs) => some (shiftAV b v, mapN (shiftObj b) objs)
  | none => none
noncomputable def callN (opt : Opts) (K : Fns) (f : FuncId) (args : List AV) (H : Heap) (b : Nat) : Option (AV × List AObj) :=
  match opt.sumN f with
  | some g => g args H b
  | none => match opt.sumE f with
    | some _ => none
    | none => match allN isFV args with
      | true => pureCall K f args b
      | false => none

noncomputable def opN (P : Program) (opt : Opts) (K : Fns) (n : Nat) (op : Op) : NOp :=
  match op with
  | .move x => match evO n x with | some f => fun T _ _ => some (f T, []) | none => nFail
  | .assign x => match evO n x with | some f => fun T _ _ => some (f T, []) | none => nFail
  | .pick c a b => match evO n c, evO n a, evO n b with
    | some fc, some fa, some fb => fun T _ _ => match fc T with
      | .fv (.bool t) => some (match t with | true => fa T | false => fb T, [])
      | _ => none
    | _, _, _ => nFail
  | .build t parts => match evParts n parts.toList with
    | some ps => let f := buildS P t ps; nAV fun T _ => f T
    | none => nFail
  | .load t a => match evO n a with
    | some fa => let f := loadS P t; nAV fun T H => f (fa T) H
    | none => nFail
  | .nilCheck x => match evO n x with | some f => nAV fun T _ => nilCheckA (f T) | none => nFail
  | .binOp op t x y _ => match evO n x, evO n y with
    | some fx, some fy => let f := binS P op t; nFV fun T _ => f (fx T) (fy T)
    | _, _ => nFail
  | .unOp op _ x => match evO n x with
    | some fx => let f := unS op; nFV fun T _ => f (fx T)
    | none => nFail
  | .convert s d x => match evO n x with
    | some fx => let f := convS P s d; nAV fun T _ => f (fx T)
    | none => nFail
  | .makeFunc (.func g) first captured => bif Nat.beq first.size 0 then (match evOs n captured.toList with
      | some [] => fun _ _ _ => some (.fv (.fn g), [])
      | some fs => let f := evAll fs; fun T _ _ => some (.clo g (f T), [])
      | none => nFail) else nFail
  | .slice t x lo hi mx => match evO n x, evOpt n lo, evOpt n hi, evOpt n mx with
    | some fx, some fl, some fh, some fm => let f := sliceS P t; nAV fun T H => f (fx T) (fl T) (fh T) (fm T) H
    | _, _, _, _ => nFail
  | .fieldAddr t x i => match evO n x with
    | some fx => let f := fieldAddrS P t i; nAV fun T _ => f (fx T)
    | none => nFail
  | .field t x i => match evO n x with
    | some fx => let f := fieldS P t i; nAV fun T _ => f (fx T)
    | none => nFail
  | .indexAddr t x i => match evO n x, evO n i with
    | some fx, some fi => let f := indexAddrS P t; nAV fun T H => f (fx T) (fi T) H
    | _, _ => nFail
  | .index t x i => match evO n x, evO n i with
    | some fx, some fi => let f := indexS P t; nAV fun T _ => f (fx T) (fi T)
    | _, _ => nFail
  | .lookup t x i ok => match evO n x, evO n i with
    | some fx, some fi => let f := lookupS P t ok; nAV fun T H => f (fx T) (fi T) H
    | _, _ => nFail
  | .extract x i => match evO n x with
    | some fx => nAV fun T _ => match fx T with
      | .tup vs => nth vs i
      | .fv (.tup vs) => (match nth vs i with | some v => some (.fv v) | none => none)
      | _ => none
    | none => nFail
  | .alloc e => match zeroCells P e with
    | some (sz, z) => fun _ _ b => some (.ptr b 0 0, [.arr sz [z] true])
    | none => nFail
  | .box _ x => match evO n x with
    | some fx => fun T _ b => let c := (fx T).cells
      bif Nat.blt 0 (lenN c) && allOne c then some (.ptr b 0 0, [.arr (lenN c) [c] true]) else none
    | none => nFail
  | .buildSlice t len parts => match evParts n parts.toList with
    | some ps => let f := buildSliceS P (opt.own t) t len ps; fun T _ b => f T b
    | none => nFail
  | .makeMap _ none => fun _ _ b => some (.map b, [.map []])
  | .makeSlice t l c => match P.underlying t, evO n l, evO n c with
    | some (.slice e), some fl, some fc => (match zeroCells P e, P.info? e with
      | some (sz, z), some i => let own := opt.ownMake t
        fun T _ b => match asNat (fl T), asNat (fc T) with
        | some l, some c => bif Nat.ble l c && Nat.ble (c * i.bytes) 281474976710656 && Nat.ble c 1099511627776 then
            (match (match own with | true => none | false => bif Nat.beq l c then allRows (rep z c) else none) with
            | some fr => some (.fv (.sl fr true), [])
            | none => some (.osl b 0 l true, [.arr sz (rep z c) true])) else none
        | _, _ => none
      | _, _ => nFail)
    | _, _, _ => nFail
  | .call { callee := .builtin b, args, argTypes } => match evOs n args.toList, argTypes.toList with
    | some (fx :: rest), t :: ts => (match b with
      | .len => let f := lenS P t; nFV fun T H => f (fx T) H
      | .cap => let f := capS P t; nFV fun T H => f (fx T) H
      | .max => (match rest with
        | [fy] => nAV fun T _ => maxA (fx T) (fy T)
        | _ => nFail)
      | .min => (match rest with
        | [fy] => nAV fun T _ => minA (fx T) (fy T)
        | _ => nFail)
      | .append => (match rest, ts, appInfo P t with
        | [fy], xt :: _, some (e, esz, bytes) => let src := appSrc P e xt
          fun T H b => match fx T with
            | .fv x => (match src (fy T) H with
              | some xs => appendN esz bytes (.fv x) xs b
              | none => none)
            | _ => none
        | _, _, _ => nFail)
      | _ => nFail)
    | _, _ => nFail
  | .call { callee := .value f, args, .. } => match evO n f, evOs n args.toList with
    | some ff, some fs => let fa := evAll fs
      fun T H b => match ff T with
        | .fv (.fn g) => callN opt K g (fa T) H b
        | _ => none
    | _, _ => nFail
  | _ => nFail

/-- operations that may turn objects: the value, the heap -/
abbrev EOp := Fr → Heap → Option (AV × Heap)
def eFail : EOp := fun _ _ => none
noncomputable def callE (opt : Opts) (K : Fns) (f : FuncId) (args : List AV) (H : Heap) : Option (AV × Heap) :=
  match opt.sumE f with
  | some g => g args H
  | none => K.fn f args H
noncomputable def opE (P : Program) (opt : Opts) (K : Fns) (n : Nat) (op : Op) : EOp :=
  match op with
  | .store t a v => match evO n a, evO n v with
    | some fa, some fv => let f := storeS P t; fun T H => match f (fa T) (fv T) H with
      | some H' => some (.fv .undef, H')
      | none => none
    | _, _ => eFail
  | .mapUpdate t m k v => match evO n m, evO n k, evO n v with
    | some fm, some fk, some fv => let f := mapUpdateS P t; fun T H => match f (fm T) (fk T) (fv T) H with
      | some H' => some (.fv .undef, H')
      | none => none
    | _, _, _ => eFail
  | .call { callee := .builtin b, args, argTypes } => match evOs n args.toList, argTypes.toList with
    | some [fx, fy], t :: ts => (match b with
      | .append => (match ts, appInfo P t with
        | xt :: _, some (e, esz, bytes) => let src := appSrc P e xt
          fun T H => match src (fy T) H with
            | some xs => appendE esz bytes (fx T) xs H
            | none => none
        | _, _ => eFail)
      | .copy => let f := copyS P t; fun T H => f (fx T) (fy T) H
      | .delete => let f := deleteS P t; fun T H => match f (fx T) (fy T) H with
        | some H' => some (.fv (.tup []), H')
        | none => none
      | _ => eFail)
    | some [fx], t :: _ => (match b with
      | .clear => let f := clearS P t; fun T H => match f (fx T) H with
        | some H' => some (.fv (.tup []), H')
        | none => none
      | _ => eFail)
    | _, _ => eFail
  | .call { callee := .value f, args, .. } => match evO n f, evOs n args.toList with
    | some ff, some fs => let fa := evAll fs
      fun T H => match ff T with
        | .fv (.fn g) => callE opt K g (fa T) H
        | .clo g cap => callE opt K g (appN (fa T) cap) H
        | .yld o => K.yl o (fa T) H
        | _ => none
    | _, _ => eFail
  | _ => eFail

def refOf (x : AV) : List Nat :=
  match x with
  | .ptr o _ _ => [o]
  | .osl o _ _ _ => [o]
  | .map o => [o]
  | _ => []
noncomputable def readsArg (n : Nat) (x : Operand) : Fr → List Nat :=
  match evO n x with
  | some f => fun T => refOf (f T)
  | none => fun _ => []
/-- the objects that an operation without effect reads -/
noncomputable def readsOf (opt : Opts) (n : Nat) (op : Op) : Fr → Heap → List Nat :=
  match op with
  | .load _ a => let f := readsArg n a; fun T _ => f T
  | .lookup _ a _ _ => let f := readsArg n a; fun T _ => f T
  | .slice _ a _ _ _ => let f := readsArg n a; fun T _ => f T
  | .indexAddr _ a _ => let f := readsArg n a; fun T _ => f T
  | .call { callee := .builtin b, args, .. } => (match args.toList with
    | x :: rest => (match b with
      | .len | .cap => let f := readsArg n x; fun T _ => f T
      | .append => (match rest with
        | [y] => let f := readsArg n y; fun T _ => f T
        | _ => fun _ _ => [])
      | _ => fun _ _ => [])
    | [] => fun _ _ => [])
  | .call { callee := .value f, args, .. } => match evO n f, evOs n args.toList with
    | some ff, some fs => let fa := evAll fs
      fun T H => match ff T with
        | .fv (.fn g) => (match opt.sumN g with
          | some _ => opt.sumR g (fa T) H
          | none => [])
        | _ => []
    | _, _ => fun _ _ => []
  | _ => fun _ _ => []

structure St where
  T : Fr
  H : Heap
  D : List ADef
  rd : Option Nat
  deriving Inhabited

noncomputable def putT (n : Nat) (d : Option Tmp) : Fr → AV → Fr :=
  match d with
  | some t => bif Nat.blt t n then fun T v => fun j => bif Nat.beq j t then v else T j else fun T _ => T
  | none => fun T _ => T

/-- is an operation wanted? none: it isn't known -/
noncomputable def wantedA (n : Nat) (ops : List Oper) (o : Oper) : Fr → Option Bool :=
  match o.guard with
  | none => fun _ => some true
  | some (j, b) => match nth ops j with
    | some g => match g.dst with
      | some d => bif Nat.blt d n then fun T => match T d with
          | .fv (.bool x) => some (x == b)
          | .fv .undef => some false
          | _ => none
        else fun _ => none
      | none => fun _ => none
    | none => fun _ => none

noncomputable def deferA (n : Nat) (c : Call) : St → Option St :=
  match c.callee with
  | .value f => bif Nat.beq c.args.size 0 then (match evO n f with
    | some ff => fun s => match s.rd with
      | none => (match ff s.T with
        | .clo f cap => some { T := s.T, H := s.H, D := .call f cap :: s.D, rd := none }
        | _ => none)
      | some _ => none
    | none => fun _ => none) else fun _ => none
  | _ => fun _ => none

/-- one operation that is wanted: its value, what was turned, the heap -/
noncomputable def runOp (P : Program) (opt : Opts) (K : Fns) (n : Nat) (op : Op) : EOp :=
  let fN := opN P opt K n op
  let fE := opE P opt K n op
  fun T H => match fN T H H.n with
    | some (v, objs) => (match H.push objs with
      | some H' => some (v, H')
      | none => none)
    | none => fE T H

noncomputable def stepA (P : Program) (opt : Opts) (K : Fns) (n : Nat) (ops : List Oper) (o : Oper) : St → Option St :=
  let want := wantedA n ops o
  let put := putT n o.dst
  match o.op with
  | .defer c => let f := deferA n c
    fun s => match want s.T with
      | some true => (match f s with
        | some s' => some { T := put s'.T (.fv .undef), H := s'.H, D := s'.D, rd := s'.rd }
        | none => none)
      | some false => some { T := put s.T (.fv .undef), H := s.H, D := s.D, rd := s.rd }
      | none => none
  | op => let f := runOp P opt K n op
    fun s => match want s.T with
      | some true => (match f s.T s.H with
        | some (v, H') => some { T := put s.T v, H := H', D := s.D, rd := s.rd }
        | none => none)
      | some false => some { T := put s.T (.fv .undef), H := s.H, D := s.D, rd := s.rd }
      | none => none

noncomputable def seqA (P : Program) (opt : Opts) (K : Fns) (n : Nat) (ops : List Oper) : List Oper → St → Option St
  | [] => fun s => some s
  | o :: rest => let f := stepA P opt K n ops o
    let g := seqA P opt K n ops rest
    fun s => match f s with
      | some s' => g s'
      | none => none

/-! ### regions whose order is open -/
/-- who must be ahead of an operation, as bits -/
noncomputable def maskOf (masks : List Nat) : List Edge → Option Nat
  | [] => some 0
  | e :: es => match maskOf masks es with
    | none => none
    | some m => match Region.binds .any e with
      | true => (match nth masks e.on with
        | some x => some (m ||| x ||| 2 ^ e.on)
        | none => none)
      | false => some m
noncomputable def masksOf : List Oper → List Nat → Option (List Nat)
  | [], masks => some masks
  | o :: l, masks => match maskOf masks o.after.toList with
    | some m => masksOf l (appN masks [m])
    | none => none
def looks (ops : List Oper) (o : Oper) : List Nat :=
  (o.op.operands.toList.filterMap fun | .tmp t => some t | _ => none) ++ o.dst.toList ++
  (match o.guard with
   | some (g, _) => ((ops[g]?).bind (·.dst)).toList
   | none => [])
def memN (x : Nat) : List Nat → Bool
  | [] => false
  | y :: l => Nat.beq x y || memN x l
/-- where two operations meet at a temporary, the first one is ahead -/
noncomputable def tmpsOk (ops : List Oper) (masks : List Nat) : Nat → List Oper → Bool
  | _, [] => true
  | j, o :: l =>
    (match nth masks j with
    | some m => before ops o m (looks ops o) 0 j ops
    | none => false) && tmpsOk ops masks (j + 1) l
where
  before (ops : List Oper) (o : Oper) (m : Nat) (lk : List Nat) : Nat → Nat → List Oper → Bool
    | _, 0, _ => true
    | _, _, [] => true
    | i, k + 1, o' :: l => (m.testBit i || !((match o'.dst with | some d => memN d lk | none => false) || (match o.dst with | some d => memN d (looks ops o') | none => false))) && before ops o m lk (i + 1) k l

/-- what an operation did, in the order of the run -/
structure DRec where
  i : Nat
  mask : Nat                          -- who is ahead of it
  eff : Bool                          -- may it have turned something
  reads : List Nat
  rdAt : Heap → List Nat              -- what it reads over another heap
  again : Heap → Option AV            -- the same operation over another heap
  val : AV
  pre : Heap
  post : Heap
  objs : List AObj                    -- new objects
  deriving Inhabited

/-- the state, and the new objects that are not laid yet: whose they are, their numbers -/
structure DS where
  s : St
  pend : List (Nat × Nat × List AObj)
  deriving Inhabited
noncomputable def layAll (mask : Nat) : List (Nat × Nat × List AObj) → Heap → Heap
  | [], H => H
  | (i, b, objs) :: l, H => bif mask.testBit i then instN objs (layAll mask l H) b else layAll mask l H
noncomputable def layEvery : List (Nat × Nat × List AObj) → Heap → Heap
  | [], H => H
  | (_, b, objs) :: l, H => instN objs (layEvery l H) b
def keepPend (mask : Nat) : List (Nat × Nat × List AObj) → List (Nat × Nat × List AObj)
  | [] => []
  | (i, b, objs) :: l => bif mask.testBit i then keepPend mask l else (i, b, objs) :: keepPend mask l

def isDead (x : AObj) : Bool := match x with | .dead => true | _ => false
noncomputable def deadFrom (H : Heap) : List AObj → Nat → Bool
  | [], _ => true
  | _ :: l, b => isDead (H.get b) && deadFrom H l (b + 1)
noncomputable def deadP (H : Heap) : List (Nat × Nat × List AObj) → Bool
  | [] => true
  | (_, b, objs) :: l => deadFrom H objs b && deadP H l
/-- a region's operation, what it does at hand -/
structure DOp where
  i : Nat
  mask : Nat
  want : Fr → Option Bool
  put : Fr → AV → Fr
  fN : NOp
  fE : EOp
  rd : Fr → Heap → List Nat
  lk : List Nat
/-- a frame but for what is looked at -/
noncomputable def restr (lk : List Nat) (T : Fr) : Fr := fun t => bif memN t lk then T t else .fv .undef
def tmpsOf (op : Op) : List Nat := op.operands.toList.filterMap fun | .tmp t => some t | _ => none
noncomputable def mkOne (P : Program) (opt : Opts) (K : Fns) (n : Nat) (ops : List Oper) (o : Oper) (mask i : Nat) : DOp :=
  { i := i, mask := mask, want := wantedA n ops o, put := putT n o.dst, fN := opN P opt K n o.op, fE := opE P opt K n o.op, rd := readsOf opt n o.op, lk := tmpsOf o.op }
noncomputable def mkD (P : Program) (opt : Opts) (K : Fns) (n : Nat) (ops : List Oper) : List (Oper × Nat) → Nat → List DOp
  | [], _ => []
  | (o, mask) :: rest, i => mkOne P opt K n ops o mask i :: mkD P opt K n ops rest (i + 1)

/-- without an effect -/
noncomputable def pureD (q : DOp) (d : DS) : Option (DS × DRec) :=
  let s := d.s
  let H := layAll q.mask d.pend s.H
  match q.want s.T with
  | some true => (match q.fN (restr q.lk s.T) H H.n with
    | some (v, objs) =>
      let r : Heap → DRec := fun H' => { i := q.i, mask := q.mask, eff := false, reads := q.rd (restr q.lk s.T) H, rdAt := q.rd (restr q.lk s.T), again := fun H => (match q.fN (restr q.lk s.T) H 0 with | some (v, []) => some v | _ => none), val := v, pre := H, post := H', objs := objs }
      (match objs with
      | [] => some ({ s := { T := q.put s.T v, H := s.H, D := s.D, rd := s.rd }, pend := d.pend }, r s.H)
      | _ => let H' : Heap := { t := s.H.t, n := s.H.n + lenN objs }
        bif Nat.ble H'.n 1152921504606846976 then
          some ({ s := { T := q.put s.T v, H := H', D := s.D, rd := s.rd }, pend := (q.i, s.H.n, objs) :: d.pend }, r H')
        else none)
    | none => none)
  | some false => some ({ s := { T := q.put s.T (.fv .undef), H := s.H, D := s.D, rd := s.rd }, pend := d.pend }, { i := q.i, mask := q.mask, eff := false, reads := [], rdAt := fun _ => [], again := fun _ => none, val := .fv .undef, pre := s.H, post := s.H, objs := [] })
  | none => none
/-- with an effect -/
noncomputable def effD (q : DOp) (d : DS) : Option (DS × DRec) :=
  let s := d.s
  let H := layAll q.mask d.pend s.H
  match q.want s.T with
  | some true => (match q.fE (restr q.lk s.T) H with
    | some (v, H') => let p := keepPend q.mask d.pend
      bif Nat.ble H.n H'.n && Nat.ble H'.n 1152921504606846976 && deadP H' p then
        some ({ s := { T := q.put s.T v, H := H', D := s.D, rd := s.rd }, pend := p }, { i := q.i, mask := q.mask, eff := true, reads := [], rdAt := fun _ => [], again := fun _ => none, val := v, pre := H, post := H', objs := [] })
      else none
    | none => none)
  | _ => none

/-- all that can run without an effect, in one pass; the others -/
noncomputable def passD : List DOp → Nat → List DOp → DS → List DRec → List DOp × DS × List DRec
  | [], _, late, d, rs => (late.reverse, d, rs)
  | q :: rest, lm, late, d, rs =>
    bif Nat.beq (q.mask &&& lm) 0 then (match pureD q d with
      | some (d', r) => passD rest lm late d' (r :: rs)
      | none => passD rest (lm ||| 2 ^ q.i) (q :: late) d rs)
    else passD rest (lm ||| 2 ^ q.i) (q :: late) d rs
/-- effects as late as can be -/
noncomputable def runD : Nat → List DOp → DS → List DRec → Option (DS × List DRec)
  | 0, _, _, _ => none
  | k + 1, l, d, rs => match passD l 0 [] d rs with
    | ([], d', rs') => some (d', rs')
    | (q :: late, d', rs') => (match effD q d' with
      | some (d2, r) => runD k late d2 (r :: rs')
      | none => none)

/-- two operations, a ahead of b in the run alone -/
noncomputable def pairOk (a b : DRec) : Bool :=
  match a.eff with
  | true => (match b.eff with | true => false | false => Nat.beq (lenN b.objs) 0 && free b a.pre)
  | false => (match b.eff with | true => free a b.post | false => true)
where
  liveB (H : Heap) : List Nat → Bool
    | [] => true
    | x :: l => (match H.get x with | .dead => false | _ => true) && liveB H l
  free (q : DRec) (H : Heap) : Bool := match q.reads with
    | [] => true
    | rs => Nat.beq (lenN q.objs) 0 && liveB H rs && beqL Nat.beq (q.rdAt H) rs && (match q.again H with
      | some v => beqA 100 v q.val
      | none => false)
/-- was what it reads there ahead of the region, or is its maker ahead of it -/
def madeOk (n0 mask : Nat) (x : Nat) : List DRec → Bool
  | [] => Nat.blt x n0
  | r :: rs => (mask.testBit r.i && Nat.ble r.pre.n x && Nat.blt x r.post.n) || madeOk n0 mask x rs
noncomputable def pairsOk (b : DRec) : List DRec → Bool
  | [] => true
  | a :: rs => (b.mask.testBit a.i || pairOk a b) && pairsOk b rs
def madesOk (n0 : Nat) (b : DRec) (rs : List DRec) : List Nat → Bool
  | [] => true
  | x :: l => madeOk n0 b.mask x rs && madesOk n0 b rs l
def bitsOf : List DRec → Nat
  | [] => 0
  | r :: rs => 2 ^ r.i ||| bitsOf rs
/-- the records, the last one first -/
noncomputable def recsOk (n0 : Nat) : List DRec → Bool
  | [] => true
  | b :: rs => Nat.beq (b.mask &&& bitsOf rs) b.mask && pairsOk b rs && madesOk n0 b rs b.reads && recsOk n0 rs

def plainOp (o : Oper) : Bool := match o.op with | .defer _ => false | .select _ _ => false | _ => true
noncomputable def drawA (P : Program) (opt : Opts) (K : Fns) (n : Nat) (ops : List Oper) : St → Option St :=
  match masksOf ops [] with
  | some masks => bif tmpsOk ops masks 0 ops && allN plainOp ops then
      (let l := mkD P opt K n ops (ops.zip masks) 0
       let k := lenN ops + 1
       fun s => match runD k l { s := s, pend := [] } [] with
         | some (d, rs) => bif recsOk s.H.n rs then some { T := d.s.T, H := layEvery d.pend d.s.H, D := d.s.D, rd := d.s.rd } else none
         | none => none)
    else fun _ => none
  | none => fun _ => none

/-! ### code -/
inductive AExit where
  | normal | exit (id : Nat) | ret
  deriving DecidableEq, Inhabited

def jumpOf : AExit → Option Code
  | .normal => none
  | .exit id => some (.exit id)
  | .ret => some .ret
def exitOf (c : Code) : Option AExit :=
  match c with
  | .ret => some .ret
  | .exit id => some (.exit id)
  | _ => none

noncomputable def rangeA (K : Fns) (n : Nat) (g : Operand) (ps : List Tmp) (assign body : Code) : St → Option (AExit × St) :=
  match evO n g with
  | none => fun _ => none
  | some fg => fun s =>
    let entered : Option (Nat × Heap × List ADef) := match s.rd with
      | some l => (match s.H.get l with
        | .loop _ _ _ _ _ _ _ db => some (db, s.H, s.D)
        | _ => none)
      | none => (match s.H.push [.dblk] with
        | some H1 => some (s.H.n, H1, .coll s.H.n :: s.D)
        | none => none)
    match entered with
    | none => none
    | some (db, H1, D1) =>
      let l := H1.n
      match H1.push [.loop .ready none n s.T ps assign body db] with
      | none => none
      | some H2 =>
        match (match fg s.T with
          | .fv (.fn f) => K.fn f [.yld l] H2
          | .clo f cap => K.fn f (.yld l :: cap) H2
          | _ => none) with
        | none => none
        | some (_, H3) => (match H3.get l with
          | .loop st pending n' T' ps' a b db =>
            (match st with
            | .busy => none
            | _ =>
              let s' : St := { T := s.T, H := H3.set l (.loop .exhausted pending n' T' ps' a b db), D := D1, rd := s.rd }
              (match pending with
              | none => some (.normal, s')
              | some c => (match exitOf c with
                | some e => some (e, s')
                | none => none)))
          | _ => none)

def normO (x : Option St) : Option (AExit × St) :=
  match x with
  | some s' => some (.normal, s')
  | none => none
def isNormal (e : AExit) : Bool :=
  match e with
  | .normal => true
  | _ => false
def loopB (f : St → Option (AExit × St)) (s : St) : Option (Bool × AExit × St) :=
  match f s with
  | some (e, s') => some (isNormal e, e, s')
  | none => none
noncomputable def codeA (P : Program) (opt : Opts) (L : Nat) (K : Fns) (n : Nat) : Code → St → Option (AExit × St)
  | .skip => fun s => some (.normal, s)
  | .label _ => fun s => some (.normal, s)
  | .region _ ops draw =>
    let f := match draw with | true => drawA P opt K n ops.toList | false => seqA P opt K n ops.toList ops.toList
    fun s => normO (f s)
  | .seq a b =>
    let f := codeA P opt L K n a
    let g := codeA P opt L K n b
    fun s => match f s with
      | some (.normal, s') => g s'
      | r => r
  | .cond c a b =>
    let f := codeA P opt L K n a
    let g := codeA P opt L K n b
    match evO n c with
    | some fc => fun s => (match fc s.T with
      | .fv (.bool t) => (match t with | true => f s | false => g s)
      | _ => none)
    | none => fun _ => none
  | .block id b =>
    let f := codeA P opt L K n b
    fun s => match f s with
      | some (.exit id', s') => bif Nat.beq id' id then some (.normal, s') else some (.exit id', s')
      | r => r
  | .loop b =>
    let f := codeA P opt L K n b
    iter (loopB f) L
  | .rangeFunc g ps assign body => rangeA K n g ps.toList assign body
  | .scope b => codeA P opt L K n b
  | .exit id => fun s => some (.exit id, s)
  | .ret => fun s => some (.ret, s)
  | _ => fun _ => none

/-! results -/
noncomputable def resVar (P : Program) (n : Nat) : ResultVar → St → Option AV
  | .tmp t => bif Nat.blt t n then fun s => some (s.T t) else fun _ => none
  | .cell a t => bif Nat.blt a n then (let f := loadS P t; fun s => f (s.T a) s.H) else fun _ => none
noncomputable def resVars (P : Program) (n : Nat) : List ResultVar → St → Option (List AV)
  | [] => fun _ => some []
  | r :: l =>
    let f := resVar P n r
    let g := resVars P n l
    fun s => match f s with
      | none => none
      | some v => (match g s with | some vs => some (v :: vs) | none => none)

/-! freezing -/
noncomputable def frz (H : Heap) (avoid : List Nat) : Nat → AV → Option FV
  | 0 => fun _ => none
  | n + 1 => fun v => match v with
    | .fv x => some x
    | .osl o off len _ => bif memN o avoid then none else (match H.get o with
      | .arr _ rows _ => (match cut rows off len with
        | some r => (match mapO (mapO (frz H avoid n)) r with
          | some rs => some (.sl rs false)
          | none => none)
        | none => none)
      | _ => none)
    | _ => none

/-- what leaves a function that was handed no object -/
noncomputable def export1 (H : Heap) (v : AV) : Option (AV × List AObj) :=
  match v with
  | .fv x => some (.fv x, [])
  | .osl o off len app => (match H.get o with
    | .arr sz rows cl => (match mapO (mapO (frz H [o] 100)) rows with
      | some rs => some (.osl 0 off len app, [.arr sz (fvRows rs) cl])
      | none => none)
    | _ => none)
  | _ => none
noncomputable def heapList (H : Heap) : List AObj := natRec (α := Nat → List AObj) (fun _ => []) (fun g i => H.get i :: g (i + 1)) H.n 0
noncomputable def exportV (H : Heap) (v : AV) : AV × List AObj :=
  match export1 H v with
  | some r => r
  | none => match v with
    | .tup vs => (match mapO (frz H [] 100) vs with
      | some xs => (.fv (.tup xs), [])
      | none => (v, heapList H))
    | _ => (v, heapList H)

/-- leaving: the deferred calls -/
noncomputable def leaveA (opt : Opts) : List ADef → Heap → Option Heap
  | [], H => some H
  | .coll o :: ds, H => (match H.get o with
    | .dblk => leaveA opt ds (H.set o .dead)
    | _ => none)
  | .call f _ :: ds, H => bif opt.reco f then leaveA opt ds H else none

noncomputable def bodyA (P : Program) (opt : Opts) (L : Nat) (K : Fns) (fn : Func) : List AV → Heap → Option (AV × Heap) :=
  match fn.body with
  | none => fun _ _ => none
  | some c =>
    let n := fn.ntmps
    let run := codeA P opt L K n c
    let res := resVars P n fn.results.toList
    fun args H => bif Nat.ble (lenN args) n then
      (match run { T := frameOf args, H := H, D := [], rd := none } with
      | some (e, s) => (match e with
        | .exit _ => none
        | _ => (match leaveA opt s.D s.H with
          | some H' => (match res { T := s.T, H := H', D := [], rd := none } with
            | some [v] => some (v, H')
            | some vs => some (mkTup vs, H')
            | none => none)
          | none => none))
      | none => none) else none

noncomputable def fnA (P : Program) (opt : Opts) (L : Nat) (K : Fns) (f : FuncId) : List AV → Heap → Option (AV × Heap) :=
  match P.funcs[f]? with
  | none => fun _ _ => none
  | some fn => bodyA P opt L K fn
noncomputable def pfA (P : Program) (opt : Opts) (L : Nat) (K : Fns) (f : FuncId) : List AV → Option (AV × List AObj) :=
  let g := fnA P opt L K f
  fun args => match g args noHeap with
    | some (v, H) => some (exportV H v)
    | none => none

noncomputable def zipSet (n : Nat) : List Nat → List AV → Fr → Fr
  | p :: ps, a :: as, T => zipSet n ps as (putT n (some p) T a)
  | _, _, T => T

noncomputable def ylA (P : Program) (opt : Opts) (L : Nat) (K : Fns) (l : Nat) (args : List AV) (H : Heap) : Option (AV × Heap) :=
  match H.get l with
  | .loop .ready _ n T ps assign body _ =>
    bif Nat.beq (lenN args) (lenN ps) then
    (match codeA P opt L K n assign { T := zipSet n ps args T, H := H, D := [], rd := some l } with
    | some (.normal, s1) => (match s1.H.get l with
      | .loop .ready pending1 n1 T1 ps1 as1 bo1 db1 =>
        (match s1.D with
        | [] => (match codeA P opt L K n body { T := s1.T, H := s1.H.set l (.loop .busy pending1 n1 T1 ps1 as1 bo1 db1), D := [], rd := some l } with
          | some (e, s2) => (match s2.H.get l with
            | .loop _ _ n2 T2 ps2 as2 bo2 db2 =>
              (match e with
              | .normal => some (.fv (.bool true), s2.H.set l (.loop .ready none n2 T2 ps2 as2 bo2 db2))
              | e => some (.fv (.bool false), s2.H.set l (.loop .done (jumpOf e) n2 T2 ps2 as2 bo2 db2)))
            | _ => none)
          | none => none)
        | _ => none)
      | _ => none)
    | _ => none) else none
  | _ => none

noncomputable def KA (P : Program) (opt : Opts) (L n : Nat) : Fns :=
  natRec (α := Fns) ⟨fun _ _ => none, fun _ _ _ => none, fun _ _ _ => none⟩
    (fun K => ⟨pfA P opt L K, fnA P opt L K, ylA P opt L K⟩) n

/-! ### summaries -/
structure Tab where
  clone : FuncId → Option TypeId
  keys : FuncId → Bool
  sorted : FuncId
  free : FuncId
  recov : FuncId

/-- slices.Clone -/
noncomputable def cloneS (P : Program) (t : TypeId) : List AV → Heap → Nat → Option (AV × List AObj) :=
  match appInfo P t with
  | some (_, esz, bytes) => fun args H b => match args with
    | [x] => (match rowsOf x H with
      | some [] => some (.fv (.sl [] true), [])
      | some rows => appendN esz bytes (.fv (.sl [] true)) rows b
      | none => none)
    | _ => none
  | none => fun _ _ _ => none

noncomputable def insI (k : FV) : List FV → List FV
  | [] => [k]
  | x :: l => match k, x with
    | .int _ a, .int _ b => if a ≤ b then k :: x :: l else x :: insI k l
    | _, _ => x :: insI k l
noncomputable def sortI : List FV → List FV
  | [] => []
  | k :: l => insI k (sortI l)
/-- rising, within bounds -/
noncomputable def risingI : List FV → Bool
  | [] => true
  | k :: l => (match k with
    | .int .i64 a => decide (-9223372036854775808 ≤ a) && decide (a ≤ 9223372036854775807) && (match l with
      | .int _ b :: _ => decide (a < b)
      | _ => true)
    | _ => false) && risingI l
noncomputable def sortedS (keys : FuncId → Bool) (args : List AV) (H : Heap) (b : Nat) : Option (AV × List AObj) :=
  match args with
  | [.clo g [.ptr o 0 0]] => bif keys g then (match H.get o with
    | .arr 1 [[.map m]] true => (match H.get m with
      | .map es => let ks := sortI (mapN (·.1) es)
        bif risingI ks && Nat.ble (lenN ks) 4294967296 then (match ks with
        | [] => some (.fv (.sl [] true), [])
        | ks => some (.osl b 0 (lenN ks) true, [.arr 1 (mapN (fun k => [AV.fv k]) ks) false])) else none
      | _ => none)
    | .arr 1 [[.fv .nilm]] true => some (.fv (.sl [] true), [])
    | _ => none) else none
  | _ => none
noncomputable def sortedR (args : List AV) (H : Heap) : List Nat :=
  match args with
  | [.clo _ [.ptr o 0 0]] => o :: (match H.get o with | .arr _ [[.map m]] _ => [m] | _ => [])
  | _ => []
def cloneR (args : List AV) : List Nat := match args with | [x] => refOf x | _ => []
noncomputable def freeS (args : List AV) (H : Heap) : Option (AV × Heap) :=
  match args with
  | [.ptr o 0 0, _] => (match H.get o with
    | .arr _ [[.fv .nilm]] _ => some (.fv (.tup []), H)
    | _ => none)
  | _ => none
noncomputable def optT (P : Program) (tab : Tab) (own ownMake : TypeId → Bool) : Opts :=
  { own := own
    ownMake := ownMake
    sumR := fun f args H => bif Nat.beq f tab.sorted then sortedR args H else cloneR args
    sumN := fun f => bif Nat.beq f tab.sorted then some (sortedS tab.keys) else match tab.clone f with
      | some t => some (cloneS P t)
      | none => none
    sumE := fun f => bif Nat.beq f tab.free then some freeS else none
    reco := fun f => Nat.beq f tab.recov }
end Go.Gm
