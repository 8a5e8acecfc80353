/- What the file system in memory does, as a plain function of its tree. No program in sight. -/
import Derived.Test.YtlnnbjgfpiefdaaGreatRamB01
import Derived.Maps.OwnSet
import Derived.WalkKit
import Derived.Maps.AppendAt
import Derived.Laws.AppendOwnNone
import Derived.Lib.Hide
import Derived.BigQuiet
import Derived.Deep.QuietTactic
import Derived.Laws.IdiomStrings
import Derived.Deep.AppendLies
import Derived.Deep.RegionHeld3
namespace Go.Proofs.YtlnnbjgfpiefdaaGreat
namespace Fs
/-- A piece: its bytes. -/
abbrev Pc := List UInt8
/-- An inode. -/
structure Nd where
  kind : Int
  links : Int
  size : Int
  pieces : Al Int Pc
  names : Al Tx Int
  blocks : Int
  text : Tx
/-- All inodes. -/
abbrev Tree := Al Int Nd
def modN (s : Tree) (i : Int) (f : Nd → Nd) : Tree := s.map fun p => if p.1 = i then (p.1, f p.2) else p

/-! Paths. -/
/-- The pieces that aren't a dot. -/
def dotless (l : List Tx) : List Tx := l.filter fun p => decide (p ≠ [46])
/-- The components, if they are neither too long nor too many. -/
def comps (s : Tx) : Option (List Tx) := if s.length ≤ 1024 ∧ (∀ p ∈ Pk.pcs s, p.length ≤ 27) ∧ (dotless (Pk.pcs s)).length ≤ 32 then some (dotless (Pk.pcs s)) else none
def wrong (s : Tx) (path : Bool) : Bool := decide (s = [] ∨ (0 : UInt8) ∈ s ∨ (path = true ∧ s.head? ≠ some 47))
def parse (s : Tx) : Except Int (List Tx) := if wrong s true then .error 1 else match comps s with
  | none => .error 130
  | some l => .ok l
def textP (s : Tx) : Except Int (List Tx × Bool) := if wrong s false then .error 1 else match comps s with
  | none => .error 130
  | some l => .ok (l, decide (s.head? = some 47))
def lastP (s : Tx) : Tx := (Pk.pcs s).getLast?.getD []
def make (s : Tx) : Except Int (List Tx × Tx) := if wrong s true then .error 1 else if lastP s = [46] ∨ lastP s = [46, 46] then .error 1 else match comps s with
  | none => .error 130
  | some l => .ok (l.dropLast, l.getLast?.getD [])

/-! Where a path leads. -/
structure Place where
  chain : List Int
  name : Tx
  inode : Int
def Place.dir (p : Place) : Int := p.chain.getLast?.getD 0
def namesOf (s : Tree) (d : Int) : Al Tx Int := ((get s d).map (·.names)).getD []
def goes (s : Tree) (behind follow : Bool) (parts : List Tx) (chain : List Int) (n : Nat) : Except Int Place :=
  match parts with
  | [] => .ok ⟨chain, [], chain.getLast?.getD 0⟩
  | c :: r =>
    if c = [46, 46] then goes s behind follow r (chain.take (max 1 (chain.length - 1))) n
    else match get (namesOf s (chain.getLast?.getD 0)) c with
      | none => .error 160
      | some m => match get s m with
        | none => .error 0
        | some x =>
          if x.kind = 2 ∧ (behind = true ∨ r ≠ []) then goes s behind follow r (chain ++ [m]) n
          else if x.kind = 3 ∧ (behind = true ∨ r ≠ [] ∨ follow = true) then
            (if _h : 8 ≤ n then .error 162 else match textP x.text with
              | .error e => .error e
              | .ok (more, top) => goes s behind follow (more ++ r) (if top then [1] else chain) (n + 1))
          else if behind = true ∨ r ≠ [] then .error 161
          else .ok ⟨chain, c, m⟩
  termination_by (9 - n, parts.length)
def toP (s : Tree) (p : Tx) (follow : Bool) : Except Int Place := match parse p with
  | .error e => .error e
  | .ok parts => goes s false follow parts [1] 0
def nameP (s : Tree) (p : Tx) : Except Int Place := match make p with
  | .error e => .error e
  | .ok (parts, nm) => if nm = [] then .ok ⟨[1], [], 1⟩ else match goes s true true parts [1] 0 with
    | .error e => .error e
    | .ok q => .ok ⟨q.chain, nm, (get (namesOf s q.dir) nm).getD 0⟩
/-- How deep the deepest name below lies. -/
def height (s : Tree) : Nat → Int → Int
  | 0, _ => 0
  | k + 1, i => (namesOf s i).foldl (fun h p => max h (if ((get s p.2).map (·.kind)) = some 2 then 1 + height s k p.2 else 1)) 0

/-! Blocks. -/
def indices (x : Nd) : List Int :=
  if x.kind = 1 then x.pieces.map (·.1)
  else if x.kind = 2 then (List.range x.blocks.toNat).map Int.ofNat
  else if x.kind = 3 then (List.range ((x.text.length + 511) / 512)).map Int.ofNat
  else []
def tkN (l : List Int) : Int := if Tk.far l then 0 else Tk.count l
def blocksOf (x : Nd) : Int := tkN (indices x)
def taken (s : Tree) : Int := (s.map fun p => blocksOf p.2).sum
def dataAt (n : Int) : Int := 98 + (n + 4095) / 4096 + n / 64
def countOf (n : Int) : Int := n / 64 * 8

/-! What turns. -/
def linksN (s : Tree) (i d : Int) : Tree := modN s i fun x => { x with links := x.links + d }
/-- The first free number. -/
def freeFrom (s : Tree) : Nat → Int → Option Int
  | 0, _ => none
  | k + 1, i => if get s i = none then some i else freeFrom s k (i + 1)
def freeN (n : Int) (s : Tree) : Option Int := freeFrom s (countOf n - 1).toNat 1
def putN (s : Tree) (d : Int) (nm : Tx) (i : Int) : Tree := modN s d fun x =>
  if (x.names.length : Int) = x.blocks * 16 then { x with blocks := x.blocks + 1, size := (x.blocks + 1) * 512, names := put x.names nm i } else { x with names := put x.names nm i }
def takeN (s : Tree) (d : Int) (nm : Tx) : Tree := modN s d fun x => { x with names := del x.names nm }
def replN (s : Tree) (d : Int) (nm : Tx) (i : Int) : Tree := modN s d fun x => { x with names := put x.names nm i }
def kindOf (s : Tree) (i : Int) : Int := ((get s i).map (·.kind)).getD 0
def linksOf (s : Tree) (i : Int) : Int := ((get s i).map (·.links)).getD 0
/-- A name is taken off; what is left of it, if it is held. -/
def loseN (s : Tree) (i : Int) (hold : Bool) : Tree × Int :=
  if 0 < linksOf s i - 1 then (linksN s i (-1), 0) else if hold = true ∧ kindOf s i = 1 then (linksN s i (-1), i) else (del (linksN s i (-1)) i, 0)

/-- What a call came to: the tree, whether something was noted, a number. -/
abbrev Did := Except Int (Tree × Bool × Int)
def fresh (n : Int) (s : Tree) (p : Tx) (x : Nd) : Did := match nameP s p with
  | .error e => .error e
  | .ok q => if q.inode ≠ 0 then .error 150 else if 32 < q.chain.length then .error 130 else match freeN n s with
    | none => .error 90
    | some i => .ok (if x.kind = 2 then linksN (putN (put s i x) q.dir q.name i) q.dir 1 else putN (put s i x) q.dir q.name i, true, i)
def linkD (s : Tree) (old other : Tx) : Did := match parse old with
  | .error e => .error e
  | .ok _ => match make other with
    | .error e => .error e
    | .ok _ => match toP s old false with
      | .error e => .error e
      | .ok a => match nameP s other with
        | .error e => .error e
        | .ok q => if kindOf s a.inode = 2 then .error 173 else if q.inode ≠ 0 then .error 150 else if 1000 ≤ linksOf s a.inode then .error 174 else if 32 < q.chain.length then .error 130
          else .ok (putN (linksN s a.inode 1) q.dir q.name a.inode, true, 0)
def unlinkD (s : Tree) (p : Tx) (hold : Bool) : Did := match nameP s p with
  | .error e => .error e
  | .ok q => if q.name = [] then .error 170 else if q.inode = 0 then .error 160 else if kindOf s q.inode = 2 then .error 170
    else .ok ((loseN (takeN s q.dir q.name) q.inode hold).1, true, (loseN (takeN s q.dir q.name) q.inode hold).2)
def rmdirD (s : Tree) (p : Tx) : Did := match nameP s p with
  | .error e => .error e
  | .ok q => if q.name = [] then .error 172 else if q.inode = 0 then .error 160 else if kindOf s q.inode ≠ 2 then .error 161 else if (namesOf s q.inode).length ≠ 0 then .error 171
    else .ok (del (linksN (takeN s q.dir q.name) q.dir (-1)) q.inode, true, 0)
def moveD (s : Tree) (a b : Place) (hold : Bool) : Did :=
  if b.inode ≠ 0 ∧ kindOf s b.inode = 2 ∧ kindOf s a.inode ≠ 2 then .error 170
  else if b.inode ≠ 0 ∧ kindOf s b.inode ≠ 2 ∧ kindOf s a.inode = 2 then .error 161
  else if kindOf s a.inode = 2 ∧ a.inode ∈ b.chain then .error 1
  else if b.inode ≠ 0 ∧ kindOf s b.inode = 2 ∧ 0 < (namesOf s b.inode).length then .error 171
  else if 32 < (b.chain.length : Int) + (if kindOf s a.inode = 2 then height s 40 a.inode else 0) then .error 130
  else
    let s1 := if kindOf s a.inode = 2 then linksN (linksN s a.dir (-1)) b.dir 1 else s
    if b.inode = 0 then .ok (putN (takeN s1 a.dir a.name) b.dir b.name a.inode, true, 0)
    else
      let s2 := takeN (replN s1 b.dir b.name a.inode) a.dir a.name
      if kindOf s b.inode = 2 then .ok (del (linksN s2 b.dir (-1)) b.inode, true, 0)
      else .ok ((loseN s2 b.inode hold).1, true, (loseN s2 b.inode hold).2)
def renameD (s : Tree) (old other : Tx) (hold : Bool) : Did := match make old with
  | .error e => .error e
  | .ok _ => match make other with
    | .error e => .error e
    | .ok _ => match nameP s old with
      | .error e => .error e
      | .ok a => if a.inode = 0 then .error 160 else match nameP s other with
        | .error e => .error e
        | .ok b => if a.name = [] ∨ b.name = [] then .error 172 else if b.inode = a.inode then .ok (s, false, 0) else moveD s a b hold

/-! A file's bytes. -/
def zeroPc : Pc := List.replicate 512 0
def pieceAt (x : Nd) (k : Int) : Pc := (get x.pieces k).getD zeroPc
def byteAt (x : Nd) (at_ : Nat) : UInt8 := (pieceAt x ((at_ / 512 : Nat) : Int)).getD (at_ % 512) 0
def readN (x : Nd) (off size : Int) : Tx := if x.size ≤ off then [] else (List.range (min size (x.size - off)).toNat).map fun j => byteAt x (off.toNat + j)
def writeGo (l : Al Int Pc) : Nat → Nat → Tx → Al Int Pc
  | 0, _, _ => l
  | k + 1, off, s => if s = [] then l else
    let i : Int := ((off / 512 : Nat) : Int)
    let p := (get l i).getD zeroPc
    let c := s.take (512 - off % 512)
    writeGo (put l i (p.take (off % 512) ++ c ++ p.drop (off % 512 + c.length))) k (off + c.length) (s.drop (512 - off % 512))
def writeD (s : Tree) (i off : Int) (t : Tx) : Did :=
  if 8459264 - off < (t.length : Int) then .error 120
  else if t = [] then .ok (s, false, 0)
  else .ok (modN s i fun x => { x with pieces := writeGo x.pieces (t.length + 1) off.toNat t, size := max x.size (off + t.length) }, true, 0)
def cutPieces (l : Al Int Pc) (size : Int) : Al Int Pc := l.filter fun p => decide (p.1 * 512 < size)
def cutN (x : Nd) (size : Int) : Nd :=
  if size < x.size then
    { x with size := size, pieces := match get (cutPieces x.pieces size) (size / 512) with
      | none => cutPieces x.pieces size
      | some p => put (cutPieces x.pieces size) (size / 512) (p.take (size % 512).toNat ++ List.replicate (512 - (size % 512).toNat) 0) }
  else { x with size := size }
def sizeOf (s : Tree) (i : Int) : Int := ((get s i).map (·.size)).getD 0
def cutD (s : Tree) (i size : Int) : Did := if 8459264 < size then .error 120 else if size = sizeOf s i then .ok (s, false, 0) else .ok (modN s i (cutN · size), true, 0)

/-! Calls. -/
structure Call where
  kind : Int
  path : Tx
  other : Tx
  off : Int
  size : Int
  data : Tx
structure Stat where
  inode : Int
  kind : Int
  links : Int
  size : Int
  blocks : Int
structure Room where
  freeB : Int
  blocks : Int
  freeI : Int
  inodes : Int
structure Ans where
  err : Int := 0
  n : Int := 0
  data : Tx := []
  stat : Stat := ⟨0, 0, 0, 0, 0⟩
  names : List Tx := []
  room : Room := ⟨0, 0, 0, 0⟩
/-- A call is done; where there is no room, or it was refused, all is as it was. -/
def fin (n : Int) (s : Tree) (r : Did) : Tree × Except Int Int := match r with
  | .error e => (s, .error e)
  | .ok (s', k, v) => if k = true ∧ n - dataAt n < taken s' then (s, .error 90) else (s', .ok v)
def ansN (r : Tree × Except Int Int) : Tree × Ans := match r.2 with
  | .error e => (r.1, { err := e })
  | .ok v => (r.1, { n := v })
def ansE (v : Int) (r : Tree × Except Int Int) : Tree × Ans := match r.2 with
  | .error e => (r.1, { err := e })
  | .ok _ => (r.1, { n := v })
def fileP (s : Tree) (p : Tx) : Except Int Int := match toP s p true with
  | .error e => .error e
  | .ok q => if kindOf s q.inode = 2 then .error 170 else .ok q.inode
def openP (s : Tree) (i : Int) : Except Int Int := match get s i with
  | none => .error 110
  | some x => if x.kind = 2 then .error 170 else if x.kind ≠ 1 then .error 1 else .ok i
def ndAt (s : Tree) (i : Int) : Nd := (get s i).getD ⟨0, 0, 0, [], [], 0, []⟩
def statN (i : Int) (x : Nd) : Stat := ⟨i, x.kind, x.links, x.size, blocksOf x⟩
def tell (s : Tree) (c : Call) : Ans := match toP s c.path (decide (c.kind = 12 ∨ c.kind = 14)) with
  | .error e => { err := e }
  | .ok q =>
    let x := ndAt s q.inode
    if c.kind = 11 then (if x.kind ≠ 3 then { err := 1 } else { data := x.text })
    else if c.kind = 14 then (if x.kind ≠ 2 then { err := 161 } else { names := x.names.map (·.1) })
    else { stat := statN q.inode x }
def newFile : Nd := ⟨1, 1, 0, [], [], 0, []⟩
def newDir : Nd := ⟨2, 2, 0, [], [], 0, []⟩
def newLink (t : Tx) : Nd := ⟨3, 1, t.length, [], [], 0, t⟩
def doC (n : Int) (s : Tree) (c : Call) : Tree × Ans :=
  if c.kind = 1 then ansN (fin n s (fresh n s c.path newFile))
  else if c.kind = 2 then ansN (fin n s (fresh n s c.path newDir))
  else if c.kind = 10 then (match textP c.other with
    | .error e => (s, { err := e })
    | .ok _ => ansN (fin n s (fresh n s c.path (newLink c.other))))
  else if c.kind = 3 then (if c.off < 0 ∨ c.size < 0 ∨ 16384 < c.size then (s, { err := 1 }) else match fileP s c.path with
    | .error e => (s, { err := e })
    | .ok i => (s, { data := readN (ndAt s i) c.off c.size, n := (readN (ndAt s i) c.off c.size).length }))
  else if c.kind = 4 then (if c.off < 0 ∨ 16384 < c.data.length then (s, { err := 1 }) else match fileP s c.path with
    | .error e => (s, { err := e })
    | .ok i => match openP s i with
      | .error e => (s, { err := e })
      | .ok i => ansE c.data.length (fin n s (writeD s i c.off c.data)))
  else if c.kind = 5 then (if c.size < 0 then (s, { err := 1 }) else match fileP s c.path with
    | .error e => (s, { err := e })
    | .ok i => match openP s i with
      | .error e => (s, { err := e })
      | .ok i => ansE 0 (fin n s (cutD s i c.size)))
  else if c.kind = 6 then ansE 0 (fin n s (unlinkD s c.path false))
  else if c.kind = 7 then ansE 0 (fin n s (rmdirD s c.path))
  else if c.kind = 8 then ansE 0 (fin n s (renameD s c.path c.other false))
  else if c.kind = 9 then ansE 0 (fin n s (linkD s c.path c.other))
  else if c.kind = 11 ∨ c.kind = 12 ∨ c.kind = 13 ∨ c.kind = 14 then (s, tell s c)
  else if c.kind = 15 then (s, { room := ⟨n - dataAt n - taken s, n - dataAt n, countOf n - 1 - s.length, countOf n - 1⟩ })
  else (s, { err := 1 })
def root : Tree := [(1, newDir)]
end Fs
end Go.Proofs.YtlnnbjgfpiefdaaGreat
/- Laws on maps whose elements are whatever values: what stands at a key is a value, as it lies; a map's literal; a look-up with 'ok'. -/
namespace Go.Proofs.YtlnnbjgfpiefdaaGreat
open Go.Maps (Keyed)

/-- An element as it lies. -/
def rawElem (v : Value) : Option (DataW Value × List MemPlace) := some (.held v, [])

/-- A map that was just made. -/
theorem ownsMap_last {H : Type} (w : World) (P : Program) (k : TypeId) (R : Value → Option (DataW H × List MemPlace)) (b : Nat) (hb : b = w.heap.size) : (w.alloc (.map #[] 0)).ownsMap P k R b 0 (.map []) := by
  subst hb; exact World.ownsMap_made _ _ _ _

/-- 'm[k] = v' of a map's literal, at the operation. -/
theorem wpList_insert_own {H : Type} {P : Program} (w : World) {ops : Array Oper} {rest : List Oper} {o : Oper} {a : Act} {Q : Exit → Act → World → Prop}
    (hg : o.guard = none) (m x v : Operand) (t : TypeId) (hop : o.op = Op.insert t m x v)
    (k e : TypeId) (K : Keyed P k) (ht : P.underlying t = some (.map k e)) (R : Value → Option (DataW H × List MemPlace)) (b n : Nat) (D : DataW H)
    (hm : a.eval m = .map (some b)) (hown : w.ownsMap P k R b n D) (hn : n < maxLen) (key val : Value) (kl : Lit) (hx : a.eval x = key) (hv : a.eval v = val) (hkey : keyOf P k key = some kl)
    (d : DataW H) (ps : List MemPlace) (hval : R val = some (d, ps))
    (hK : ∀ w', w'.ownsMap P k R b (n + 1) (D.put kl d) → w.grownBy w' (some b) → wpList P ops Q rest (a.put o.dst undef) w') :
    wpList P ops Q (o :: rest) a w := by
  refine wpList_plain hg fun K' hK' => ?_
  obtain ⟨w', hrun, r1, r2⟩ := hown.update K ht hn hkey hval
  unfold Oper.wp
  simp [execOp, hop, hm, hx, hv, hrun, Result.andThen]
  exact hK' _ _ (hK w' r1 r2)

/-- 'm[k]' of elements as they lie. -/
theorem wpList_lookup_raw {P : Program} (w : World) {ops : Array Oper} {rest : List Oper} {o : Oper} {a : Act} {Q : Exit → Act → World → Prop}
    (hg : o.guard = none) (m x : Operand) (t : TypeId) (hop : o.op = Op.lookup t m x false)
    (k e : TypeId) (K : Keyed P k) (ht : P.underlying t = some (.map k e)) (z : Value) (hz : (zeroValue e).run P w = .ok z w) (b n : Nat) (D : DataW Value)
    (hm : a.eval m = .map (some b)) (hown : w.ownsMap P k rawElem b n D) (key : Value) (kl : Lit) (hx : a.eval x = key) (hkey : keyOf P k key = some kl)
    (v : Value) (hat : D.atKey kl (.held z) = .held v)
    (hK : wpList P ops Q rest (a.put o.dst v) w) : wpList P ops Q (o :: rest) a w := by
  refine wpList_plain hg fun K' hK' => ?_
  obtain ⟨u, ps, hrun, hu⟩ := hown.lookup K ht hz (zd := .held z) (zp := []) rfl hkey
  rw [hat] at hu
  simp only [rawElem, Option.some.injEq, Prod.mk.injEq, DataW.held.injEq] at hu
  obtain ⟨rfl, _⟩ := hu
  unfold Oper.wp
  simp [execOp, hop, hm, hx, hrun, Result.andThen]
  exact hK' _ _ hK

/-- 'v, ok := m[k]' of elements as they lie. -/
theorem wpList_lookup_raw_ok {P : Program} (w : World) {ops : Array Oper} {rest : List Oper} {o : Oper} {a : Act} {Q : Exit → Act → World → Prop}
    (hg : o.guard = none) (m x : Operand) (t : TypeId) (hop : o.op = Op.lookup t m x true)
    (k e : TypeId) (K : Keyed P k) (ht : P.underlying t = some (.map k e)) (z : Value) (hz : (zeroValue e).run P w = .ok z w) (b n : Nat) (D : DataW Value)
    (hm : a.eval m = .map (some b)) (hown : w.ownsMap P k rawElem b n D) (key : Value) (kl : Lit) (hx : a.eval x = key) (hkey : keyOf P k key = some kl)
    (v : Value) (hat : D.atKey kl (.held z) = .held v) (ok : Bool) (hok : Maps.has D kl = ok)
    (hK : wpList P ops Q rest (a.put o.dst (.tuple #[v, .bool ok])) w) : wpList P ops Q (o :: rest) a w := by
  refine wpList_plain hg fun K' hK' => ?_
  obtain ⟨u, ps, hrun, hu⟩ := hown.look_ok K ht hz (zd := .held z) (zp := []) rfl hkey
  rw [hat] at hu
  rw [hok] at hrun
  simp only [rawElem, Option.some.injEq, Prod.mk.injEq, DataW.held.injEq] at hu
  obtain ⟨rfl, _⟩ := hu
  unfold Oper.wp
  simp [execOp, hop, hm, hx, hrun, Result.andThen]
  exact hK' _ _ hK
/-- The same inside a region that draws its order. -/
theorem step_lookup_raw_ok {P : Program} (w : World) {ops : Array Oper} {o : Oper} {a : Act} {K : Act → World → Prop} {Q : Exit → Act → World → Prop} {E : Prop}
    (hg : o.guard = none) (m x : Operand) (t : TypeId) (hop : o.op = Op.lookup t m x true)
    (k e : TypeId) (KK : Keyed P k) (ht : P.underlying t = some (.map k e)) (z : Value) (hz : (zeroValue e).run P w = .ok z w) (b n : Nat) (D : DataW Value)
    (hm : a.eval m = .map (some b)) (hown : w.ownsMap P k rawElem b n D) (key : Value) (kl : Lit) (hx : a.eval x = key) (hkey : keyOf P k key = some kl)
    (v : Value) (hat : D.atKey kl (.held z) = .held v) (ok : Bool) (hok : Maps.has D kl = ok)
    (hK : K (a.put o.dst (.tuple #[v, .bool ok])) w) : if Region.wanted o (yielded ops a.tmps) = true then Oper.wp P o a w K Q else E := by
  rw [if_pos (by simp [Region.wanted, hg])]
  obtain ⟨u, ps, hrun, hu⟩ := hown.look_ok KK ht hz (zd := .held z) (zp := []) rfl hkey
  rw [hat] at hu
  rw [hok] at hrun
  simp only [rawElem, Option.some.injEq, Prod.mk.injEq, DataW.held.injEq] at hu
  obtain ⟨rfl, _⟩ := hu
  unfold Oper.wp
  simp [execOp, hop, hm, hx, hrun, Result.andThen]
  exact hK
end Go.Proofs.YtlnnbjgfpiefdaaGreat
/- General laws for walks: an append whose source may be nil or empty; cells behind a callee that leaves the old blocks alone. -/
namespace Go.Proofs.YtlnnbjgfpiefdaaGreat
open Go.RowKit

/-- 'append(out, xs...)', out the call's own, xs a slice wherever it lies, nil too. -/
theorem wpList_append_any {P : Program} (w : World) {ops : Array Oper} {rest : List Oper} {o : Oper} {a : Act} {Q : Exit → Act → World → Prop} (hgd : o.guard = none) (s x : Operand) (t : TypeId)
    (ho : o.op = .call { callee := .builtin .append, args := #[s, x], argTypes := #[t, t] })
    (base : Nat) (e : TypeId) (i : TypeInfo) (z : Value) (size bytes : Nat) (ht : P.underlying t = some (.slice e)) (hi : P.info? e = some i) (hz : i.zero = some z)
    (hsize : i.size = size) (hby : i.bytes = bytes) (hzs : z.cells.size = size) (hsz : 0 < size)
    (v : Value) (n : Nat) (xs : List Value) (hs : a.eval s = v) (hown : w.ownsRow base e size v n xs)
    (ao : Option Addr) (m c : Nat) (news : List Value) (hx : a.eval x = .slice ao m c) (hnil : ao = none → m = 0 ∧ c = 0) (hl : news.length = m * size)
    (hnews : ∀ ad, ao = some ad → ∀ j u, news[j]? = some u → w.cell? (ad.add j) = some u) (h1 : ∀ u ∈ news, u.oneCell' = true)
    (h63 : n + m ≤ maxLen) (hbytes : (n + m) * bytes ≤ 140737488355328) (hbase : base ≤ w.heap.size)
    (h : ∀ v' w', w'.ownsRow base e size v' (n + m) (xs ++ news) → w.grownBy w' v.ownBlock → (v'.ownBlock = v.ownBlock ∨ v'.ownBlock = some w.heap.size) → wpList P ops Q rest (a.put o.dst v') w') :
    wpList P ops Q (o :: rest) a w := by
  cases ao with
  | none =>
    obtain ⟨rfl, rfl⟩ := hnil rfl
    have hn : news = [] := List.eq_nil_of_length_eq_zero (by simpa using hl)
    subst hn
    refine wpList_append_own_none hgd s x t ho base e i size ht hi v n xs hs hown hx ?_
    have := h v w (by simpa using hown) (World.grownBy.refl _ _) (.inl rfl)
    exact this
  | some ad =>
    exact wpList_append_own_at w hgd s x t ho base e i z size bytes ht hi hz hsize hby hzs hsz v n xs hs hown ad m c news hx hl (hnews ad rfl) h1 h63 hbytes hbase (fun v' w' a1 a2 _ a4 => h v' w' a1 a2 a4)

/-- What lay before a call reads as it did behind it. -/
theorem bcell {W w1 : World} (hb : Below W.heap.size W w1) : (∀ b o, b < W.heap.size → w1.cell? ⟨b, o, none⟩ = W.cell? ⟨b, o, none⟩) ∧ (∀ b o, b < W.heap.size → w1.frozen? ⟨b, o, none⟩ = W.frozen? ⟨b, o, none⟩) :=
  ⟨fun b o h => hb.cell (p := ⟨b, o, none⟩) h, fun b o h => hb.frozen (p := ⟨b, o, none⟩) h⟩
theorem below_drewN {B : Nat} {a w : World} (h : Below B a w) (n : Nat) : Below B a (w.drewN n) := ⟨h.os, h.tape, h.output, h.size, h.block⟩
/-- A row of the call's own, of at least one cell: where it lies. -/
theorem own_at {w : World} {base : Nat} {e : TypeId} {size : Nat} {v : Value} {n : Nat} {xs : List Value} (h : w.ownsRow base e size v n xs) (hn : 0 < n) :
    ∃ g cap, v = .slice (some ⟨g, 0, none⟩) n cap ∧ base ≤ g ∧ g < w.heap.size ∧ n ≤ cap ∧ cap ≤ 9223372036854775807 ∧ (∀ j, j < n * size → w.cell? ⟨g, j, none⟩ = xs[j]?) ∧ (∀ j, w.frozen? ⟨g, j, none⟩ = false) := by
  have h' := h
  rcases h.2 with ⟨_, hz⟩ | ⟨g, cap, cur, rfl, hb, hh, hc, hm, hs, ht⟩
  · omega
  · exact ⟨g, cap, rfl, hb, (h.lt g rfl).2, hc, hm, fun j hj => h'.cellAt j hj, fun j => h'.frozenAt j⟩
end Go.Proofs.YtlnnbjgfpiefdaaGreat
/- Laws for slices of bytes that the call owns: what is appended, and the text that they make. -/
namespace Go.Proofs.YtlnnbjgfpiefdaaGreat
open Go.RowKit

/-- A text's bytes. -/
def bs (s : ByteArray) : List UInt8 := s.data.toList
/-- A text of these bytes. -/
def mk (l : List UInt8) : ByteArray := ⟨l.toArray⟩
theorem bs_mk (l : List UInt8) : bs (mk l) = l := rfl
theorem mk_bs (s : ByteArray) : mk (bs s) = s := rfl
theorem bs_len (s : ByteArray) : (bs s).length = s.size := rfl
theorem mk_size (l : List UInt8) : (mk l).size = l.length := rfl
theorem bs_inj {s t : ByteArray} (h : bs s = bs t) : s = t := by rw [← mk_bs s, ← mk_bs t, h]
theorem bs_get (s : ByteArray) (k : Nat) (h : k < s.size) : (bs s)[k]? = some s[k] := by
  have : (bs s)[k]? = some ((bs s)[k]'h) := List.getElem?_eq_getElem h
  rw [this]; rfl
theorem bs_take_succ (s : ByteArray) (k : Nat) (h : k < s.size) : (bs s).take (k + 1) = (bs s).take k ++ [s[k]] := by
  rw [List.take_succ_eq_append_getElem (by simpa [bs] using h)]; rfl
theorem bs_drop (s : ByteArray) (k : Nat) (h : k < s.size) : (bs s).drop k = s[k] :: (bs s).drop (k + 1) := by
  rw [List.drop_eq_getElem_cons (by simpa [bs] using h)]; rfl
theorem toList_bs (s : ByteArray) : s.toList = bs s := ByteArray.toList_eq s
theorem empty_of {s : ByteArray} (h : s.size = 0) : s.toList.isEmpty = true ∧ bs s = [] := by
  have h1 : bs s = [] := List.length_eq_zero_iff.1 h
  rw [toList_bs, h1]; exact ⟨rfl, rfl⟩
theorem nonempty_of {s : ByteArray} (h : 0 < s.size) : s.toList.isEmpty = false := by
  rw [toList_bs]
  cases hq : bs s with
  | nil => have := bs_len s; rw [hq] at this; simp only [List.length_nil] at this; omega
  | cons a b => rfl
theorem u8_lt (c : UInt8) : c.toNat < 256 := c.toNat_lt
theorem ret_bool {a b : Bool} (h : a = b) : Ending.returned (.bool a) = .returned (.bool b) := by rw [h]
theorem ret_int {k : IntKind} {a b : Int} (h : a = b) : Ending.returned (.int k a) = .returned (.int k b) := by rw [h]
theorem ret_str {a b : ByteArray} (h : a = b) : Ending.returned (.string a) = .returned (.string b) := by rw [h]
theorem ret_mk {a : ByteArray} {l : List UInt8} (h : bs a = l) : Ending.returned (.string a) = .returned (.string (mk l)) := by rw [← h]; rfl
theorem ret_two {a b c d : Value} (h : a = c) (h' : b = d) : Ending.returned (.tuple #[a, b]) = .returned (.tuple #[c, d]) := by rw [h, h']

/-- Bytes as cells. -/
def bytesV (l : List UInt8) : List Value := l.map fun c => Value.int .u8 c.toNat
theorem bytesV_len (l : List UInt8) : (bytesV l).length = l.length := by simp [bytesV]
theorem bytesV_app (l r : List UInt8) : bytesV (l ++ r) = bytesV l ++ bytesV r := by simp [bytesV]
theorem bytesV_one (l : List UInt8) : ∀ u ∈ bytesV l, u.oneCell' = true := by
  intro u hu
  obtain ⟨c, _, rfl⟩ := List.mem_map.1 hu
  rfl

/-- The types []byte and byte of a program. -/
structure BytesT (P : Program) (S T : TypeId) : Prop where
  und : P.underlying S = some (.slice T)
  elem : P.underlying T = some (.int .u8)
  info : (P.info? T).map (fun i => (i.zero, i.size, i.bytes)) = some (some (.int .u8 0), 1, 1)

theorem news_new (w : World) (l : List Value) (t : TypeId) : ∀ j u, l[j]? = some u → (w.alloc (.cells l.toArray t)).cell? ((⟨w.heap.size, 0, none⟩ : Addr).add j) = some u := by
  intro j u hj
  have hjl := (List.getElem?_eq_some_iff.1 hj).1
  rw [Addr.add_lit, Nat.zero_add]
  simp only [World.cell?]
  rw [heap_alloc_new]
  simpa using hj

/-- 'out = append(out, x, y ..)', out bytes that the call owns. -/
theorem wpList_append_bytes {P : Program} {S T : TypeId} (B : BytesT P S T) (W : World) {ops : Array Oper} {rest : List Oper} {o : Oper} {a : Act} {Q : Exit → Act → World → Prop} (hgd : o.guard = none) (s x : Operand)
    (ho : o.op = .call { callee := .builtin .append, args := #[s, x], argTypes := #[S, S] }) (cs : Array Value) (base : Nat) (v : Value) (l k : List UInt8) (m : Nat) (hk : cs = (bytesV k).toArray) (hm : m = k.length)
    (hs : a.eval s = v) (hown : W.ownsRow base T 1 v l.length (bytesV l)) (hx : a.eval x = .slice (some ⟨W.heap.size, 0, none⟩) m m)
    (hlen : l.length + k.length ≤ 140737488355328) (hbase : base ≤ W.heap.size)
    (h : ∀ v' w', w'.ownsRow base T 1 v' (l ++ k).length (bytesV (l ++ k)) → W.grownBy w' v.ownBlock → (v'.ownBlock = v.ownBlock ∨ ∃ g, v'.ownBlock = some g ∧ W.heap.size ≤ g) → wpList P ops Q rest (a.put o.dst v') w') :
    wpList P ops Q (o :: rest) a (W.alloc (.cells cs T)) := by
  obtain ⟨i0, hi, hz0, hz1, hz2⟩ := info_parts B.info
  subst hk; subst hm
  refine wpList_append_own_at _ hgd s x S ho base T i0 (.int .u8 0) 1 1 B.und hi hz0 hz1 hz2 rfl (by decide) v _ _ hs (hown.alloc _) ⟨W.heap.size, 0, none⟩ k.length k.length (bytesV k) hx (by simp [bytesV]) (news_new _ _ _) (bytesV_one k) (by unfold maxLen; omega) (by omega) (by simp; omega) ?_
  intro v' w' ho' hg' _ hat
  rw [← bytesV_app, ← List.length_append] at ho'
  refine h v' w' ho' ((World.grownBy_alloc W _ _).trans hg') ?_
  rcases hat with e | e
  · exact .inl e
  · exact .inr ⟨_, e, by simp⟩

/-- .. in a region that draws its order. -/
theorem step_append_bytes {P : Program} {S T : TypeId} (B : BytesT P S T) (W : World) {ops : Array Oper} {o : Oper} {a : Act} {K : Act → World → Prop} {Q : Exit → Act → World → Prop} {E : Prop} (hgd : o.guard = none) (s x : Operand)
    (ho : o.op = .call { callee := .builtin .append, args := #[s, x], argTypes := #[S, S] }) (cs : Array Value) (base : Nat) (v : Value) (l k : List UInt8) (m : Nat) (hk : cs = (bytesV k).toArray) (hm : m = k.length) (hpos : 0 < k.length)
    (hs : a.eval s = v) (hown : W.ownsRow base T 1 v l.length (bytesV l)) (hx : a.eval x = .slice (some ⟨W.heap.size, 0, none⟩) m m)
    (hlen : l.length + k.length ≤ 140737488355328) (hbase : base ≤ W.heap.size)
    (h : ∀ v' w', w'.ownsRow base T 1 v' (l ++ k).length (bytesV (l ++ k)) → W.grownBy w' v.ownBlock → K (a.put o.dst v') w') :
    if Region.wanted o (yielded ops a.tmps) = true then Oper.wp P o a (W.alloc (.cells cs T)) K Q else E := by
  obtain ⟨i0, hi, hz0, hz1, hz2⟩ := info_parts B.info
  subst hk; subst hm
  refine step_append_lies _ hgd s x S ho base T i0 (.int .u8 0) 1 1 B.und hi hz0 hz1 hz2 rfl (by decide) v _ _ hs (hown.alloc _) ⟨W.heap.size, 0, none⟩ k.length k.length (bytesV k) hx (by simp [bytesV]) (news_new _ _ _) (bytesV_one k) hpos (by unfold maxLen; omega) (by omega) (by simp; omega) _ rfl ?_
  intro g cap w' ho' hg' _ _
  rw [← bytesV_app] at ho'
  refine h _ w' ?_ ((World.grownBy_alloc W _ _).trans hg')
  rw [List.length_append]; exact ho'

/-- .. behind a region's draw. -/
theorem step_append_bytes_drew {P : Program} {S T : TypeId} (B : BytesT P S T) (W : World) {ops : Array Oper} {o : Oper} {a : Act} {K : Act → World → Prop} {Q : Exit → Act → World → Prop} {E : Prop} (hgd : o.guard = none) (s x : Operand)
    (ho : o.op = .call { callee := .builtin .append, args := #[s, x], argTypes := #[S, S] }) (cs : Array Value) (base : Nat) (v : Value) (l k : List UInt8) (m : Nat) (hk : cs = (bytesV k).toArray) (hm : m = k.length) (hpos : 0 < k.length)
    (hs : a.eval s = v) (hown : W.ownsRow base T 1 v l.length (bytesV l)) (hx : a.eval x = .slice (some ⟨W.heap.size, 0, none⟩) m m)
    (hlen : l.length + k.length ≤ 140737488355328) (hbase : base ≤ W.heap.size)
    (h : ∀ v' w', w'.ownsRow base T 1 v' (l ++ k).length (bytesV (l ++ k)) → W.grownBy w' v.ownBlock → K (a.put o.dst v') w') :
    if Region.wanted o (yielded ops a.tmps) = true then Oper.wp P o a (W.alloc (.cells cs T)).drew K Q else E := by
  obtain ⟨i0, hi, hz0, hz1, hz2⟩ := info_parts B.info
  subst hk; subst hm
  refine step_append_lies _ hgd s x S ho base T i0 (.int .u8 0) 1 1 B.und hi hz0 hz1 hz2 rfl (by decide) v _ _ hs ((hown.alloc _).drew) ⟨W.heap.size, 0, none⟩ k.length k.length (bytesV k) hx (by simp [bytesV]) (news_new _ _ _) (bytesV_one k) hpos (by unfold maxLen; omega) (by omega) (by simp; omega) _ rfl ?_
  intro g cap w' ho' hg' _ _
  rw [← bytesV_app] at ho'
  have hg0 := World.grownBy_alloc W (.cells (bytesV k).toArray T) v.ownBlock
  refine h _ w' ?_ ((show W.grownBy (W.alloc (.cells (bytesV k).toArray T)).drew v.ownBlock from ⟨hg0.os, hg0.tape, hg0.output, hg0.size, hg0.block⟩).trans hg')
  rw [List.length_append]; exact ho'

/-- 'string(out)', out bytes that the call owns. -/
theorem wpList_bytes_string {P : Program} {S T D : TypeId} (B : BytesT P S T) (hd : P.underlying D = some .string) (w : World) {ops : Array Oper} {rest : List Oper} {o : Oper} {a : Act} {Q : Exit → Act → World → Prop} (hgd : o.guard = none) (s : Operand)
    (ho : o.op = Op.convert S D s) (base : Nat) (v : Value) (l : List UInt8) (hs : a.eval s = v) (hown : w.ownsRow base T 1 v l.length (bytesV l))
    (h : wpList P ops Q rest (a.put o.dst (.string (mk l))) w) : wpList P ops Q (o :: rest) a w := by
  refine wpList_plain hgd fun K hK => ?_
  have hrun : (convert S D v).run P w = .ok (.string (mk l)) w := by
    rcases hown.2 with ⟨rfl, hn⟩ | ⟨g, cap, cur, rfl, _⟩
    · have hl : l = [] := List.length_eq_zero_iff.1 hn
      subst hl
      rw [run_convert_bytes_string w S D T none 0 0 B.und B.elem hd]
      simp [Conv.bytesToString, Sem.run_pure]
      rfl
    · refine run_convert_bytes_back w S D T ⟨g, 0, none⟩ cap l B.und B.elem hd ?_
      intro j hj
      have := hown.cellAt j (by omega)
      rw [Addr.add_lit, Nat.zero_add, this]
      simp [bytesV, hj]
  unfold Oper.wp
  simp [execOp, ho, hs, hrun, Result.andThen]
  exact hK _ _ h

/-- A quiet callee in a region that draws its order: the caller's world on the left. -/
theorem quiet_left {P : Program} {f : FuncId} {args : Array Value} {w : World} {n : Nat} {v : Value}
    (h : Calls P f args (w.drewN n) fun e w' => e = .returned v ∧ w.drewN n = w') : Calls P f args (w.drewN n) fun e w'' => e = .returned v ∧ ∃ m, w'' = w.drewN m :=
  h.mono fun _ _ ⟨he, hm⟩ => ⟨he, n, hm.symm⟩
theorem own_drewN {w : World} {base : Nat} {e : TypeId} {size : Nat} {v : Value} {n : Nat} {xs : List Value} (h : w.ownsRow base e size v n xs) (k : Nat) : (w.drewN k).ownsRow base e size v n xs := h
theorem draws0 (w : World) : w = w.drewN 0 := rfl
end Go.Proofs.YtlnnbjgfpiefdaaGreat
/- Laws for slices of texts, and of whatever elements of one cell, that the call owns: what is appended. -/
namespace Go.Proofs.YtlnnbjgfpiefdaaGreat
open Go.RowKit

/-- A slice type, and its element type: one cell. -/
structure CellT (P : Program) (S T : TypeId) (z : Value) (k : Nat) : Prop where
  und : P.underlying S = some (.slice T)
  info : (P.info? T).map (fun i => (i.zero, i.size, i.bytes)) = some (some z, 1, k)
  one : z.cells.size = 1

/-- 'out = append(out, x, y ..)', out a slice that the call owns. -/
theorem wpList_append_cells {P : Program} {S T : TypeId} {z : Value} {k : Nat} (B : CellT P S T z k) (W : World) {ops : Array Oper} {rest : List Oper} {o : Oper} {a : Act} {Q : Exit → Act → World → Prop} (hgd : o.guard = none) (s x : Operand)
    (ho : o.op = .call { callee := .builtin .append, args := #[s, x], argTypes := #[S, S] }) (cs : Array Value) (base : Nat) (v : Value) (l r : List Value) (m : Nat) (hk : cs = r.toArray) (hm : m = r.length) (h1 : ∀ u ∈ r, u.oneCell' = true)
    (hs : a.eval s = v) (hown : W.ownsRow base T 1 v l.length l) (hx : a.eval x = .slice (some ⟨W.heap.size, 0, none⟩) m m)
    (hlen : l.length + r.length ≤ 1000000000000000) (hby : (l.length + r.length) * k ≤ 140737488355328) (hbase : base ≤ W.heap.size)
    (h : ∀ v' w', w'.ownsRow base T 1 v' (l ++ r).length (l ++ r) → W.grownBy w' v.ownBlock → (v'.ownBlock = v.ownBlock ∨ ∃ g, v'.ownBlock = some g ∧ W.heap.size ≤ g) → wpList P ops Q rest (a.put o.dst v') w') :
    wpList P ops Q (o :: rest) a (W.alloc (.cells cs T)) := by
  obtain ⟨i0, hi, hz0, hz1, hz2⟩ := info_parts B.info
  subst hk; subst hm
  refine wpList_append_own_at _ hgd s x S ho base T i0 z 1 k B.und hi hz0 hz1 hz2 B.one (by decide) v _ _ hs (hown.alloc _) ⟨W.heap.size, 0, none⟩ r.length r.length r hx (by omega) (news_new _ _ _) h1 (by unfold maxLen; omega) hby (by simp; omega) ?_
  intro v' w' ho' hg' _ hat
  rw [← List.length_append] at ho'
  refine h v' w' ho' ((World.grownBy_alloc W _ _).trans hg') ?_
  rcases hat with e | e
  · exact .inl e
  · exact .inr ⟨_, e, by simp⟩

/-- Texts as cells. -/
def strsV (l : List (List UInt8)) : List Value := l.map fun t => Value.string (mk t)
theorem strsV_len (l : List (List UInt8)) : (strsV l).length = l.length := by simp [strsV]
theorem strsV_app (l r : List (List UInt8)) : strsV (l ++ r) = strsV l ++ strsV r := by simp [strsV]
theorem strsV_at {l : List (List UInt8)} {j : Nat} {t : List UInt8} (h : l[j]? = some t) : (strsV l)[j]? = some (.string (mk t)) := by simp [strsV, h]
/-- A row of the call's own stays behind a callee that leaves the old blocks alone. -/
theorem own_below {w w1 : World} {base : Nat} {e : TypeId} {size : Nat} {v : Value} {n : Nat} {xs : List Value} (h : w.ownsRow base e size v n xs) (hb : Below w.heap.size w w1) : w1.ownsRow base e size v n xs := by
  refine ⟨h.1, ?_⟩
  rcases h.2 with h2 | ⟨g, cap, cur, rfl, h3, h4, h5⟩
  · exact .inl h2
  · exact .inr ⟨g, cap, cur, rfl, h3, (hb.block g (h.lt g rfl).2).trans h4, h5⟩
end Go.Proofs.YtlnnbjgfpiefdaaGreat
