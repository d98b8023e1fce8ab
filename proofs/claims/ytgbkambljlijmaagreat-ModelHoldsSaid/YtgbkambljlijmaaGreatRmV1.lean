import Derived.Calls
import Derived.Laws.Sem
import Derived.Below
import Derived.ChangeKeysEq
import Derived.MapKept
import Derived.Laws.StructEq
import Derived.Laws.Append
set_option linter.all false
/- Abstract values: lists instead of addresses; ids for what may still be written. -/
namespace Go.Abs

/-- An abstract value. -/
inductive V where
  | any                                            -- nothing is known
  | a (v : Value)                                  -- just this value
  | ptr (id tot i j : Nat)                         -- the address of cell j of row i of object id
  | own (id es off len tot : Nat)                  -- a slice of object id: rows off .. off+len-1
  | ref (row : List V) (j : Nat)                   -- the address of cell j of a row that is never written again
  | view (es : Nat) (rows : List (List V))         -- a slice that is never written again; nil or not, if it is empty
  | agg (cs : List V)
  | tup (vs : List V)
  | fn (f : Fn) (first captured : List V)
  | mp (id : Nat)
  | mview (es : List (V × V))                      -- a map that is never written again
  | ifc (t : TypeId) (v : V)
  | nul (es : Nat)                                 -- a slice without elements and without room, nil or not
  deriving Inhabited

/-- Where an object lies: its block, its first cell, how many rows there is room for, a row's cells, the first row that is there; rows in all. -/
structure Hd where
  b : Nat
  o : Nat
  cap : Nat
  es : Nat
  lo : Nat
  nil : Bool
  tot : Nat
  sub : Nat → Prop      -- further blocks that are its own

abbrev noSub : Nat → Prop := fun _ => False

def Hd.wt (h : Hd) (n : Nat) : Hd := ⟨h.b, h.o, h.cap, h.es, h.lo, h.nil, n, noSub⟩

structure Cx where
  hp : Array Obj
  own : Nat → Prop
  live : Nat → Prop
  hd : Nat → Option Hd

def look (h : Array Obj) (b o : Nat) : Option Value :=
  match h[b]? with
  | some (.cells c _ _) => c[o]?
  | _ => none

def Cx.only (c : Cx) (refs : List Nat) : Cx := { c with live := fun i => i ∈ refs ∧ c.live i }

/-- A slice's value, by its object's place. -/
def Hd.slice (h : Hd) (off len : Nat) (v : Value) : Prop :=
  (h.nil = true ∧ (∃ ad, v = .slice ad 0 0) ∧ len = 0) ∨
  (h.nil = false ∧ ∃ ad, v = .slice (some ad) len (h.cap - (off - h.lo)) ∧ off + len ≤ h.tot ∧ (off - h.lo < h.cap → ad = ⟨h.b, h.o + (off - h.lo) * h.es, none⟩))

inductive RV : Cx → Value → V → Prop where
  | any {c : Cx} {v : Value} : RV c v .any
  | a {c : Cx} {v : Value} : RV c v (.a v)
  | ptr {c : Cx} {v : Value} {id tot i j : Nat} (hl : c.live id) (h : ∀ h, c.hd id = some h → tot ≤ h.tot ∧ (h.tot = tot → h.lo ≤ i ∧ h.nil = false ∧ v = .pointer (some ⟨h.b, h.o + (i - h.lo) * h.es + j, none⟩))) : RV c v (.ptr id tot i j)
  | own {c : Cx} {v : Value} {id es off len tot : Nat} (hl : c.live id) (h : ∀ h, c.hd id = some h → tot ≤ h.tot ∧ (h.tot = tot → h.lo ≤ off ∧ h.es = es ∧ h.slice off len v)) : RV c v (.own id es off len tot)
  | ref {c : Cx} {row : List V} {j b o : Nat} (g : Nat → Value) (hb : ¬ c.own b) (hs : b < c.hp.size)
      (hg : ∀ (k : Nat) (x : V), row[k]? = some x → look c.hp b (o + k) = some (g k) ∧ (g k).oneCell' = true) (hr : ∀ (k : Nat) (x : V), row[k]? = some x → RV (c.only []) (g k) x) :
      RV c (.pointer (some ⟨b, o + j, none⟩)) (.ref row j)
  | nilv {c : Cx} {es : Nat} : RV c (.slice none 0 0) (.view es [])
  | view {c : Cx} {es : Nat} {rows : List (List V)} {ad : Addr} {cap : Nat} (g : Nat → Nat → Value)
      (hb : rows ≠ [] → ¬ c.own ad.block ∧ ad.block < c.hp.size ∧ ad.spot = none) (hcap : rows.length ≤ cap) (hlen : ∀ (i : Nat) (row : List V), rows[i]? = some row → row.length = es)
      (hg : ∀ (i : Nat) (row : List V), rows[i]? = some row → ∀ (j : Nat) (x : V), row[j]? = some x → look c.hp ad.block (ad.off + i * es + j) = some (g i j) ∧ (g i j).oneCell' = true)
      (hr : ∀ (i : Nat) (row : List V), rows[i]? = some row → ∀ (j : Nat) (x : V), row[j]? = some x → RV (c.only []) (g i j) x) :
      RV c (.slice (some ad) rows.length cap) (.view es rows)
  | agg {c : Cx} {vs : Array Value} {cs : List V} (hl : vs.size = cs.length) (h1 : ∀ (i : Nat) (v : Value), vs[i]? = some v → v.oneCell' = true) (h : ∀ (i : Nat) (v : Value) (x : V), vs[i]? = some v → cs[i]? = some x → RV c v x) : RV c (.agg vs) (.agg cs)
  | tup {c : Cx} {vs : Array Value} {cs : List V} (hl : vs.size = cs.length) (h : ∀ (i : Nat) (v : Value) (x : V), vs[i]? = some v → cs[i]? = some x → RV c v x) : RV c (.tuple vs) (.tup cs)
  | fn {c : Cx} {f : Fn} {fs cp : Array Value} {xs ys : List V} (hl : fs.size = xs.length) (hl' : cp.size = ys.length)
      (h : ∀ (i : Nat) (v : Value) (x : V), fs[i]? = some v → xs[i]? = some x → RV c v x) (h' : ∀ (i : Nat) (v : Value) (x : V), cp[i]? = some v → ys[i]? = some x → RV c v x) : RV c (.func f fs cp) (.fn f xs ys)
  | mp {c : Cx} {v : Value} {id : Nat} (hl : c.live id) (h : ∀ h, c.hd id = some h → h.tot = 0 → v = .map (some h.b)) : RV c v (.mp id)
  | mview {c : Cx} {b clock : Nat} {ents : Array MapEntry} {es : List (V × V)} (hb : ¬ c.own b) (hm : c.hp[b]? = some (.map ents clock)) (hl : ents.size = es.length)
      (hk : ∀ (i : Nat) (e : MapEntry) (x : V × V), ents[i]? = some e → es[i]? = some x → RV (c.only []) e.key x.1)
      (hv : ∀ (i : Nat) (e : MapEntry) (x : V × V), ents[i]? = some e → es[i]? = some x → RV (c.only []) e.val x.2) : RV c (.map (some b)) (.mview es)
  | ifc {c : Cx} {t : TypeId} {v : Value} {x : V} (h : RV c v x) : RV c (.iface t v) (.ifc t x)
  | nul {c : Cx} {ad : Option Addr} {es : Nat} : RV c (.slice ad 0 0) (.nul es)

/-- What still holds in the one holds in the other. -/
structure Cx.le (c c' : Cx) : Prop where
  size : c.hp.size ≤ c'.hp.size
  same : ∀ b, b < c.hp.size → ¬ c.own b → c'.hp[b]? = c.hp[b]? ∧ ¬ c'.own b
  live : ∀ id, c.live id → c'.live id
  hd : ∀ id h', c.live id → c'.hd id = some h' → c.hd id = some h' ∨ ∃ h, c.hd id = some h ∧ h.tot < h'.tot

theorem Cx.le.only {c c' : Cx} (h : c.le c') (refs : List Nat) : (c.only refs).le (c'.only refs) :=
  ⟨h.size, h.same, fun id hl => ⟨hl.1, h.live id hl.2⟩, fun id h' hl => h.hd id h' hl.2⟩

theorem look_same {h h' : Array Obj} {b o : Nat} (e : h'[b]? = h[b]?) : look h' b o = look h b o := by
  unfold look; rw [e]

theorem RV.mono {c c' : Cx} {v : Value} {x : V} (hr : RV c v x) (hc : c.le c') : RV c' v x := by
  induction hr generalizing c' with
  | any => exact .any
  | a => exact .a
  | ptr hl h =>
    refine .ptr (hc.live _ hl) fun h' e => ?_
    rcases hc.hd _ _ hl e with e | ⟨h0, e, hlt⟩
    · exact h _ e
    · have := h _ e
      exact ⟨by omega, fun e2 => by omega⟩
  | own hl h =>
    refine .own (hc.live _ hl) fun h' e => ?_
    rcases hc.hd _ _ hl e with e | ⟨h0, e, hlt⟩
    · exact h _ e
    · have := h _ e
      exact ⟨by omega, fun e2 => by omega⟩
  | ref g hb hs hg hr ih =>
    obtain ⟨h1, h2⟩ := hc.same _ hs hb
    exact .ref g h2 (Nat.lt_of_lt_of_le hs hc.size) (fun k x hk => by rw [look_same h1]; exact hg k x hk) fun k x hk => ih k x hk (hc.only [])
  | nilv => exact .nilv
  | view g hb hcap hlen hg hr ih =>
    refine .view g (fun hne => ?_) hcap hlen (fun i row hi j x hj => ?_) fun i row hi j x hj => ih i row hi j x hj (hc.only [])
    · obtain ⟨q1, q2, q3⟩ := hb hne
      exact ⟨(hc.same _ q2 q1).2, Nat.lt_of_lt_of_le q2 hc.size, q3⟩
    · obtain ⟨q1, q2, q3⟩ := hb (by rintro rfl; simp at hi)
      rw [look_same (hc.same _ q2 q1).1]; exact hg i row hi j x hj
  | agg hl ho h ih => exact .agg hl ho fun i v x h1 h2 => ih i v x h1 h2 hc
  | tup hl h ih => exact .tup hl fun i v x h1 h2 => ih i v x h1 h2 hc
  | fn hl hl' h h' ih ih' => exact .fn hl hl' (fun i v x h1 h2 => ih i v x h1 h2 hc) fun i v x h1 h2 => ih' i v x h1 h2 hc
  | mp hl h =>
    refine .mp (hc.live _ hl) fun h' e => ?_
    rcases hc.hd _ _ hl e with e | ⟨h0, e, hlt⟩
    · exact h _ e
    · exact fun e2 => by omega
  | mview hb hm hl hk hv ihk ihv =>
    have hs : _ < _ := (Array.getElem?_eq_some_iff.1 hm).1
    obtain ⟨h1, h2⟩ := hc.same _ hs hb
    exact .mview h2 (h1.trans hm) hl (fun i e x he hx => ihk i e x he hx (hc.only [])) fun i e x he hx => ihv i e x he hx (hc.only [])
  | ifc h ih => exact .ifc (ih hc)
  | nul => exact .nul

end Go.Abs

/- Abstract heaps, and how they lie in memory. -/
namespace Go.Abs

/-- A cell: a value, or a slice of its own. -/
inductive Ce where
  | v (x : V)
  | n (es : Nat) (rows : List (List Ce))
  deriving Inhabited

inductive O where
  | res                                                        -- a number kept free
  | dead                                                       -- nothing is known any more
  | mem (fz : Bool) (refs : List Nat) (rows : List (List V))   -- rows of cells; fz: never written again; refs: the objects that its cells may name
  | map (fz : Bool) (refs : List Nat) (es : List (V × V))
  | sit (s : ByteArray) (pos : Nat)                            -- a walk over a string
  | tree (refs : List Nat) (rows : List (List Ce))             -- rows of cells that may own slices
  deriving Inhabited

abbrev Heap := List O

def O.alive : O → Bool
  | .mem .. | .map .. | .sit .. | .tree .. => true
  | _ => false

def hdOf (H : Heap) (β : Nat → Hd) (id : Nat) : Option Hd :=
  match H[id]? with
  | some (.mem _ _ rows) => some ((β id).wt rows.length)
  | some (.map _ _ _) => some ((β id).wt 0)
  | some (.sit _ _) => some ((β id).wt 0)
  | some (.tree _ rows) => some ((β id).wt rows.length)
  | _ => none

/-- Does object id lie in block b, and may be written? -/
def ownsB (H : Heap) (β : Nat → Hd) (id b : Nat) : Prop :=
  match H[id]? with
  | some (.mem false _ _) => (β id).nil = false ∧ (β id).b = b
  | some (.map false _ _) => (β id).b = b
  | some (.sit _ _) => (β id).b = b
  | some (.tree _ _) => (β id).nil = false ∧ ((β id).b = b ∨ (β id).sub b)
  | _ => False

def owned (H : Heap) (β : Nat → Hd) (b : Nat) : Prop := ∃ id, ownsB H β id b

def liveIn (H : Heap) (id : Nat) : Prop := ∃ o, H[id]? = some o ∧ o ≠ .res

/-- F: blocks that are others'. -/
def cx (hp : Array Obj) (H : Heap) (β : Nat → Hd) (F : Nat → Prop) : Cx := { hp, own := fun b => owned H β b ∨ F b, live := liveIn H, hd := hdOf H β }

/-- Does a value lie in memory as a cell says, in just these blocks of its own? -/
inductive TR : Cx → List Nat → (Nat → Prop) → Value → Ce → Prop where
  | v {c : Cx} {refs : List Nat} {u : Value} {x : V} (h1 : u.oneCell' = true) (h : RV (c.only refs) u x) : TR c refs noSub u (.v x)
  | nil {c : Cx} {refs : List Nat} {es : Nat} {ad : Option Addr} : TR c refs noSub (.slice ad 0 0) (.n es [])
  | n {c : Cx} {refs : List Nat} {S : Nat → Prop} {ad : Addr} {b o cap es : Nat} {rows : List (List Ce)} (had : 0 < cap → ad = ⟨b, o, none⟩) (cs : Array Value) (E : TypeId) (g : Nat → Nat → Value) (T : Nat → Nat → Nat → Prop)
      (hb : c.hp[b]? = some (.cells cs E (0, 0))) (hcap : rows.length ≤ cap) (hsz : o + cap * es ≤ cs.size) (hlen : ∀ (i : Nat) (row : List Ce), rows[i]? = some row → row.length = es)
      (hg : ∀ (i : Nat) (row : List Ce), rows[i]? = some row → ∀ (j : Nat) (x : Ce), row[j]? = some x → cs[o + i * es + j]? = some (g i j))
      (hr : ∀ (i : Nat) (row : List Ce), rows[i]? = some row → ∀ (j : Nat) (x : Ce), row[j]? = some x → TR c refs (T i j) (g i j) x)
      (hT : ∀ i j k, T i j k → ∃ row x, rows[i]? = some row ∧ row[j]? = some x)
      (hS : ∀ k, S k ↔ k = b ∨ ∃ i j, T i j k) (hd : ∀ i j, ¬ T i j b) (hd2 : ∀ i j i' j' k, T i j k → T i' j' k → i = i' ∧ j = j') :
      TR c refs S (.slice (some ad) rows.length cap) (.n es rows)

theorem TR.mono {c c' : Cx} {refs : List Nat} {S : Nat → Prop} {u : Value} {x : Ce} (h : TR c refs S u x) (hc : (c.only refs).le (c'.only refs)) (hs : ∀ b, S b → c'.hp[b]? = c.hp[b]?) : TR c' refs S u x := by
  induction h with
  | v h1 h => exact .v h1 (h.mono hc)
  | nil => exact .nil
  | n had cs E g T hb hcap hsz hlen hg hr hT hS hd hd2 ih =>
    refine .n had cs E g T ((hs _ ((hS _).2 (.inl rfl))).trans hb) hcap hsz hlen hg (fun i row hi j x hj => ih i row hi j x hj fun b hb => hs b ((hS b).2 (.inr ⟨i, j, hb⟩))) hT hS hd hd2

theorem TR.lt {c : Cx} {refs : List Nat} {S : Nat → Prop} {u : Value} {x : Ce} (h : TR c refs S u x) : ∀ b, S b → b < c.hp.size := by
  induction h with
  | v => intro b h; exact h.elim
  | nil => intro b h; exact h.elim
  | n had cs E g T hb hcap hsz hlen hg hr hT hS hd hd2 ih =>
    intro k hk
    rcases (hS k).1 hk with rfl | ⟨i, j, hk⟩
    · exact (Array.getElem?_eq_some_iff.1 hb).1
    · obtain ⟨row, x, hi, hj⟩ := hT i j k hk
      exact ih i row hi j x hj k hk

theorem TR.one {c : Cx} {refs : List Nat} {S : Nat → Prop} {u : Value} {x : Ce} (h : TR c refs S u x) : u.oneCell' = true := by
  cases h with
  | v h1 _ => exact h1
  | nil => rfl
  | n => rfl

/-- How an object's rows lie in memory. -/
def RO (c : Cx) (h : Hd) : O → Prop
  | .res | .dead => True
  | .mem fz refs rows =>
    (h.nil = true ∧ rows = [] ∧ h.lo = 0) ∨
    (h.nil = false ∧ h.lo ≤ rows.length ∧ rows.length - h.lo ≤ h.cap ∧ (∀ (i : Nat) (row : List V), rows[i]? = some row → row.length = h.es) ∧
      (fz = true → ¬ c.own h.b) ∧
      ∃ cs E fr, c.hp[h.b]? = some (.cells cs E fr) ∧ (fz = false → fr = (0, 0)) ∧ h.o + h.cap * h.es ≤ cs.size ∧
        ∀ (i : Nat) (row : List V), rows[i]? = some row → h.lo ≤ i → ∀ (j : Nat) (x : V), row[j]? = some x →
          ∃ v, cs[h.o + (i - h.lo) * h.es + j]? = some v ∧ v.oneCell' = true ∧ RV (c.only refs) v x)
  | .map fz refs es =>
    (fz = true → ¬ c.own h.b) ∧
    ∃ ents clock, c.hp[h.b]? = some (.map ents clock) ∧ ents.size = es.length ∧
      clock = ents.size ∧ (∀ (i : Nat) (e : MapEntry), ents[i]? = some e → e.born = i) ∧
      (∀ (i : Nat) (e : MapEntry) (x : V × V), ents[i]? = some e → es[i]? = some x → RV (c.only []) e.key x.1 ∧ RV (c.only refs) e.val x.2)
  | .sit s pos => h.lo = 0 ∧ h.o = 0 ∧ h.es = 0 ∧ h.nil = false ∧ c.hp[h.b]? = some (.stringIter s pos)
  | .tree refs rows =>
    (h.nil = true ∧ rows = [] ∧ h.lo = 0) ∨
    (h.nil = false ∧ h.lo = 0 ∧ ¬ h.sub h.b ∧ TR c refs (fun b => h.b = b ∨ h.sub b) (.slice (some ⟨h.b, h.o, none⟩) rows.length h.cap) (.n h.es rows) ∧
      ∀ cs E fr, c.hp[h.b]? = some (.cells cs E fr) → h.o + h.cap * h.es ≤ cs.size)

structure HOK (hp : Array Obj) (H : Heap) (β : Nat → Hd) (F : Nat → Prop) : Prop where
  ro : ∀ id o, H[id]? = some o → RO (cx hp H β F) (β id) o
  one : ∀ id id' b, ownsB H β id b → ownsB H β id' b → id = id'
  far : ∀ b, F b → b < hp.size ∧ ¬ owned H β b

theorem RO.mono {c c' : Cx} {h : Hd} {o : O} (hr : RO c h o) (hc : c.le c') (hb : c'.hp[h.b]? = c.hp[h.b]?) (hf : ¬ c.own h.b → ¬ c'.own h.b) (hs : ∀ refs rows, o = .tree refs rows → h.nil = false → ∀ b, h.sub b → c'.hp[b]? = c.hp[b]?) : RO c' h o := by
  cases o with
  | res => trivial
  | dead => trivial
  | mem fz refs rows =>
    rcases hr with hr | ⟨h1, h2, h3, h4, h5, cs, E, fr, h6, h7, h8, h9⟩
    · exact .inl hr
    · refine .inr ⟨h1, h2, h3, h4, fun e => hf (h5 e), cs, E, fr, hb.trans h6, h7, h8, fun i row hi hlo j x hj => ?_⟩
      obtain ⟨v, e, q, r⟩ := h9 i row hi hlo j x hj
      exact ⟨v, e, q, r.mono (hc.only refs)⟩
  | map fz refs es =>
    obtain ⟨h1, ents, clock, h2, h3, h4, h5, h6⟩ := hr
    refine ⟨fun e => hf (h1 e), ents, clock, hb.trans h2, h3, h4, h5, fun i e x he hx => ?_⟩
    exact ⟨(h6 i e x he hx).1.mono (hc.only []), (h6 i e x he hx).2.mono (hc.only refs)⟩
  | sit s pos =>
    obtain ⟨h1, h2, h3, h4, h5⟩ := hr
    exact ⟨h1, h2, h3, h4, hb.trans h5⟩
  | tree refs rows =>
    rcases hr with hr | ⟨h1, h2, h3, h4⟩
    · exact .inl hr
    · refine .inr ⟨h1, h2, h3, h4.1.mono (hc.only refs) fun b e => ?_, fun cs E fr e => h4.2 cs E fr (hb ▸ e)⟩
      rcases e with rfl | e
      · exact hb
      · exact hs _ _ rfl h1 b e

/-- What a run keeps: blocks that may not be written, and the streams. -/
structure WExt (own : Nat → Prop) (w w' : World) : Prop where
  os : w'.os = w.os
  tape : w'.tape = w.tape
  output : w'.output = w.output
  size : w.heap.size ≤ w'.heap.size
  block : ∀ b, b < w.heap.size → ¬ own b → w'.heap[b]? = w.heap[b]?

theorem WExt.refl (own : Nat → Prop) (w : World) : WExt own w w := ⟨rfl, rfl, rfl, Nat.le_refl _, fun _ _ _ => rfl⟩

theorem WExt.trans {own own' : Nat → Prop} {w w' w'' : World} (h : WExt own w w') (h' : WExt own' w' w'') (ho : ∀ b, own' b → own b ∨ w.heap.size ≤ b) : WExt own w w'' := by
  refine ⟨h'.os.trans h.os, h'.tape.trans h.tape, h'.output.trans h.output, Nat.le_trans h.size h'.size, fun b hb hn => ?_⟩
  rw [h'.block b (Nat.lt_of_lt_of_le hb h.size) fun e => ?_]
  · exact h.block b hb hn
  · rcases ho b e with e | e
    · exact hn e
    · omega

def upd (β : Nat → Hd) (id : Nat) (h : Hd) : Nat → Hd := fun i => if i = id then h else β i

theorem upd_same (β : Nat → Hd) (id : Nat) (h : Hd) : upd β id h id = h := by simp [upd]
theorem upd_ne (β : Nat → Hd) {id i : Nat} (h : Hd) (hn : i ≠ id) : upd β id h i = β i := by simp [upd, hn]

theorem getElem?_set_ne' {α : Type} {l : List α} {i k : Nat} {x : α} (h : k ≠ i) : (l.set i x)[k]? = l[k]? := by
  rw [List.getElem?_set_ne]; exact fun e => h e.symm

theorem ownsB_set_ne {H : Heap} {β : Nat → Hd} {id k b : Nat} {o : O} {h : Hd} (hk : k ≠ id) : ownsB (H.set id o) (upd β id h) k b ↔ ownsB H β k b := by
  unfold ownsB; rw [getElem?_set_ne' hk, upd_ne β h hk]

theorem hdOf_set_ne {H : Heap} {β : Nat → Hd} {id k : Nat} {o : O} {h : Hd} (hk : k ≠ id) : hdOf (H.set id o) (upd β id h) k = hdOf H β k := by
  unfold hdOf; rw [getElem?_set_ne' hk, upd_ne β h hk]

theorem lt_of_get {α : Type} {l : List α} {i : Nat} {x : α} (h : l[i]? = some x) : i < l.length := (List.getElem?_eq_some_iff.1 h).1

theorem get_set {α : Type} {l : List α} {i : Nat} {x y : α} (h : l[i]? = some x) : (l.set i y)[i]? = some y := by
  rw [List.getElem?_set_self (lt_of_get h)]

theorem hp_lt {hp : Array Obj} {b : Nat} {o : Obj} (h : hp[b]? = some o) : b < hp.size := (Array.getElem?_eq_some_iff.1 h).1

/-- A block that an object lies in is there. -/
theorem HOK.lt {hp : Array Obj} {H : Heap} {β : Nat → Hd} {F : Nat → Prop} (h : HOK hp H β F) {b : Nat} (ho : owned H β b) : b < hp.size := by
  obtain ⟨id, ho⟩ := ho
  unfold ownsB at ho
  cases hid : H[id]? with
  | none => simp [hid] at ho
  | some o =>
    have hr := h.ro id o hid
    rw [hid] at ho
    cases o with
    | res => exact ho.elim
    | dead => exact ho.elim
    | mem fz refs rows =>
      cases fz with
      | true => exact ho.elim
      | false =>
        obtain ⟨h1, rfl⟩ := ho
        rcases hr with hr | ⟨_, _, _, _, _, cs, E, fr, h6, _⟩
        · rw [hr.1] at h1; cases h1
        · exact hp_lt h6
    | map fz refs es =>
      cases fz with
      | true => exact ho.elim
      | false =>
        subst ho
        obtain ⟨_, ents, clock, h2, _⟩ := hr
        exact hp_lt h2
    | sit s pos =>
      subst ho
      exact hp_lt hr.2.2.2.2
    | tree refs rows =>
      obtain ⟨h1, h2⟩ := ho
      rcases hr with hr | ⟨_, _, _, h4, _⟩
      · rw [hr.1] at h1; cases h1
      · exact h4.lt b h2

/-- One object turns, and memory with it. -/
theorem HOK.turn {hp hp' : Array Obj} {H : Heap} {β : Nat → Hd} {F : Nat → Prop} {id : Nat} {o o' : O} {h' : Hd} (hk : HOK hp H β F) (hid : H[id]? = some o)
    (hsize : hp.size ≤ hp'.size)
    (hsame : ∀ b, b < hp.size → ¬ ownsB H β id b → hp'[b]? = hp[b]?)
    (hnew : ∀ b, ownsB (H.set id o') (upd β id h') id b → ownsB H β id b ∨ hp.size ≤ b)
    (hlive : o' ≠ .res)
    (hhd : ∀ g', hdOf (H.set id o') (upd β id h') id = some g' → o ≠ .res → hdOf H β id = some g' ∨ ∃ g, hdOf H β id = some g ∧ g.tot < g'.tot)
    (hro : (cx hp H β F).le (cx hp' (H.set id o') (upd β id h') F) → RO (cx hp' (H.set id o') (upd β id h') F) h' o') :
    HOK hp' (H.set id o') (upd β id h') F ∧ (cx hp H β F).le (cx hp' (H.set id o') (upd β id h') F) ∧
      ∀ b, owned (H.set id o') (upd β id h') b → owned H β b ∨ hp.size ≤ b := by
  have hown : ∀ b, owned (H.set id o') (upd β id h') b → owned H β b ∨ hp.size ≤ b := by
    rintro b ⟨k, hb⟩
    by_cases hki : k = id
    · subst hki
      exact (hnew b hb).imp (fun e => ⟨k, e⟩) fun e => e
    · exact .inl ⟨k, (ownsB_set_ne hki).1 hb⟩
  have hle : (cx hp H β F).le (cx hp' (H.set id o') (upd β id h') F) := by
    refine ⟨hsize, fun b hb hn => ⟨hsame b hb fun e => hn (.inl ⟨id, e⟩), fun e => ?_⟩, fun k hl => ?_, fun k g' hl hg => ?_⟩
    · rcases e with e | e
      · rcases hown b e with e | e
        · exact hn (.inl e)
        · have : hp.size ≤ b := e
          have : b < hp.size := hb
          omega
      · exact hn (.inr e)
    · obtain ⟨q, hq, hq2⟩ := hl
      by_cases hki : k = id
      · subst hki
        exact ⟨o', get_set hid, hlive⟩
      · exact ⟨q, by rw [getElem?_set_ne' hki]; exact hq, hq2⟩
    · by_cases hki : k = id
      · subst hki
        obtain ⟨q, hq, hq2⟩ := hl
        rw [hid] at hq
        injection hq with hq
        exact hhd g' hg (hq ▸ hq2)
      · have hg' : hdOf (H.set id o') (upd β id h') k = some g' := hg
        rw [hdOf_set_ne hki] at hg'
        exact .inl hg'
  refine ⟨⟨fun k q hq => ?_, fun k k' b h1 h2 => ?_, fun b hb => ⟨Nat.lt_of_lt_of_le (hk.far b hb).1 hsize, fun e => ?_⟩⟩, hle, hown⟩
  · by_cases hki : k = id
    · subst hki
      rw [get_set hid] at hq
      injection hq with hq
      subst hq
      rw [upd_same]
      exact hro hle
    · rw [getElem?_set_ne' hki] at hq
      rw [upd_ne β h' hki]
      have hr := hk.ro k q hq
      have hblk : q.alive = true → (∀ fz refs rows, q = .mem fz refs rows → (β k).nil = false) → (∀ refs rows, q = .tree refs rows → (β k).nil = false) → hp'[(β k).b]? = hp[(β k).b]? := by
        intro ha hnn hnt
        by_cases hof : ownsB H β k (β k).b
        · refine hsame _ (hk.lt ⟨k, hof⟩) fun e => hki (hk.one _ _ _ hof e)
        · have hlt : (β k).b < hp.size ∧ ¬ ownsB H β id (β k).b := by
            cases q with
            | res => cases ha
            | dead => cases ha
            | mem fz refs rows =>
              have hn := hnn _ _ _ rfl
              rcases hr with hr | ⟨_, _, _, _, h5, cs, E, fr, h6, _⟩
              · rw [hr.1] at hn; cases hn
              · cases fz with
                | false => exact (hof (by unfold ownsB; rw [hq]; exact ⟨hn, rfl⟩)).elim
                | true => exact ⟨hp_lt h6, fun e => h5 rfl (.inl ⟨id, e⟩)⟩
            | map fz refs es =>
              obtain ⟨h1, ents, clock, h2, _⟩ := hr
              cases fz with
              | false => exact (hof (by unfold ownsB; rw [hq])).elim
              | true => exact ⟨hp_lt h2, fun e => h1 rfl (.inl ⟨id, e⟩)⟩
            | sit s pos => exact (hof (by unfold ownsB; rw [hq])).elim
            | tree refs rows => exact (hof (by unfold ownsB; rw [hq]; exact ⟨hnt _ _ rfl, .inl rfl⟩)).elim
          exact hsame _ hlt.1 hlt.2
      cases q with
      | res => trivial
      | dead => trivial
      | mem fz refs rows =>
        by_cases hn : (β k).nil = true
        · rcases hr with hr | ⟨h1, _⟩
          · exact .inl hr
          · rw [h1] at hn; cases hn
        · have hn' : (β k).nil = false := by simpa using hn
          have hb := hblk rfl (fun _ _ _ _ => hn') fun _ _ e => by cases e
          refine hr.mono hle hb (fun hno => ?_) fun _ _ e => by cases e
          have : (β k).b < hp.size := by
            rcases hr with hr | ⟨_, _, _, _, h5, cs, E, fr, h6, _⟩
            · rw [hr.1] at hn; simp at hn
            · exact hp_lt h6
          exact (hle.same _ this hno).2
      | map fz refs es =>
        have hb := hblk rfl (fun _ _ _ e => by cases e) fun _ _ e => by cases e
        refine hr.mono hle hb (fun hno => ?_) fun _ _ e => by cases e
        obtain ⟨h1, ents, clock, h2, _⟩ := hr
        exact (hle.same _ (hp_lt h2) hno).2
      | sit s pos =>
        have hb := hblk rfl (fun _ _ _ e => by cases e) fun _ _ e => by cases e
        refine hr.mono hle hb (fun hno => ?_) fun _ _ e => by cases e
        exact (hle.same _ (hp_lt hr.2.2.2.2) hno).2
      | tree refs rows =>
        by_cases hn : (β k).nil = true
        · rcases hr with hr | ⟨h1, _⟩
          · exact .inl hr
          · rw [h1] at hn; cases hn
        · have hn' : (β k).nil = false := by simpa using hn
          have hb := hblk rfl (fun _ _ _ e => by cases e) fun _ _ _ => hn'
          have hob : ∀ b, ((β k).b = b ∨ (β k).sub b) → ownsB H β k b := fun b e => by unfold ownsB; rw [hq]; exact ⟨hn', e⟩
          refine hr.mono hle hb (fun hno => absurd (.inl ⟨k, hob _ (.inl rfl)⟩) hno) fun _ _ _ _ b e => ?_
          have ho := hob b (.inr e)
          exact hsame b (hk.lt ⟨k, ho⟩) fun e' => hki (hk.one _ _ _ ho e')
  · by_cases h1i : k = id <;> by_cases h2i : k' = id
    · rw [h1i, h2i]
    · exfalso
      subst h1i
      have h2' := (ownsB_set_ne h2i).1 h2
      rcases hnew b h1 with e | e
      · exact h2i (hk.one _ _ _ h2' e)
      · have := hk.lt ⟨k', h2'⟩; omega
    · exfalso
      subst h2i
      have h1' := (ownsB_set_ne h1i).1 h1
      rcases hnew b h2 with e | e
      · exact h1i (hk.one _ _ _ h1' e)
      · have := hk.lt ⟨k, h1'⟩; omega
    · exact hk.one _ _ _ ((ownsB_set_ne h1i).1 h1) ((ownsB_set_ne h2i).1 h2)
  · have hf := hk.far b hb
    rcases hown b e with e | e
    · exact hf.2 e
    · omega

end Go.Abs

/- States, and the operations that leave memory alone. -/
namespace Go.Abs

/-- What the slots hold. -/
abbrev Sl := Nat → V
def gt (l : Sl) (t : Nat) : V := l t
def up (l : Sl) (d : Nat) (v : V) : Sl := fun t => if d = t then v else l t
def e0 : Sl := fun _ => .any
/-- These slots alone. -/
def keepS (l : Sl) : List Nat → Sl
  | [] => e0
  | t :: ts => up (keepS l ts) t (gt l t)

theorem gt_up (l : Sl) (d : Nat) (v : V) (t : Nat) : gt (up l d v) t = if d = t then v else gt l t := rfl
theorem gt_e0 (t : Nat) : gt e0 t = .any := rfl

structure St where
  sl : Sl
  hp : Heap
  bs : Nat := 0

def St.put (st : St) (d : Option Nat) (v : V) : St :=
  match d with
  | some d => { st with sl := up st.sl d v }
  | none => st

def cv : Value → V
  | .agg cs => if cs.toList.all (·.oneCell') then .agg (cs.toList.map .a) else .any
  | v => .a v

def St.ev (st : St) : Operand → V
  | .tmp t => gt st.sl t
  | .const v => cv v
  | .global _ => .any
  | .func f => .fn (.func f) [] []

abbrev V.int (k : IntKind) (n : Int) : V := .a (.int k n)
abbrev V.bool (b : Bool) : V := .a (.bool b)
abbrev V.str (s : ByteArray) : V := .a (.string s)

/-- An object's rows. -/
def O.rows : O → List (List V)
  | .mem _ _ rows => rows
  | _ => []

def O.isMem : O → Bool
  | .mem .. => true
  | _ => false

/-- May it be read there? -/
def okAt (hp : Heap) : V → Prop
  | .ptr id tot i _ => (hp.getD id .dead).isMem = true ∧ (hp.getD id .dead).rows.length = tot ∧ i < tot
  | .ref _ _ => True
  | _ => False

/-- The cells from an address on, to the end of their row. -/
def cellsAt (hp : Heap) : V → List V
  | .ptr id _ i j => ((hp.getD id .dead).rows.getD i []).drop j
  | .ref row j => row.drop j
  | _ => []

structure Rel (w : World) (β : Nat → Hd) (F : Nat → Prop) (N : Nat) (st : St) (a : Act) : Prop where
  hok : HOK w.heap st.hp β F
  sl : ∀ t, RV (cx w.heap st.hp β F) (a.tmps.getD t undef) (gt st.sl t)
  df : a.defers = []
  sz : a.tmps.size = N

theorem RV.cv {c : Cx} {v : Value} : RV c v (cv v) := by
  unfold Abs.cv
  split
  · split
    · next cs hall =>
      refine .agg (by simp) (fun i v hv => ?_) fun i v x h1 h2 => ?_
      · exact List.all_eq_true.1 hall v (by simpa using Array.mem_of_getElem? hv)
      · simp only [List.getElem?_map, Array.getElem?_toList] at h2
        rw [h1] at h2
        simp at h2
        subst h2
        exact .a
    · exact .any
  · exact .a

theorem Rel.ev {w : World} {β : Nat → Hd} {F : Nat → Prop} {N : Nat} {st : St} {a : Act} (h : Rel w β F N st a) (x : Operand) : RV (cx w.heap st.hp β F) (a.eval x) (st.ev x) := by
  cases x with
  | tmp t => exact h.sl t
  | const v => exact .cv
  | global g => exact .any
  | func f => exact .fn rfl rfl (fun i v x h => by simp at h) fun i v x h => by simp at h

theorem Rel.put {w : World} {β : Nat → Hd} {F : Nat → Prop} {N : Nat} {st : St} {a : Act} (h : Rel w β F N st a) {d : Option Nat} (hd : ∀ t, d = some t → t < N) {v : Value} {x : V}
    (hv : RV (cx w.heap st.hp β F) v x) : Rel w β F N (st.put d x) (a.put d v) := by
  cases d with
  | none => exact h
  | some d =>
    have hd := hd d rfl
    refine ⟨h.hok, fun t => ?_, h.df, by simp [Act.put, h.sz]⟩
    show RV _ _ (if d = t then x else gt st.sl t)
    by_cases e : d = t
    · subst e
      simp only [if_true, Act.put]
      rw [show (a.tmps.setIfInBounds d v).getD d undef = v from by simp [Array.getD, h.sz, hd]]
      exact hv
    · rw [if_neg e]
      have : (a.tmps.setIfInBounds d v).getD t undef = a.tmps.getD t undef := by
        simp only [Array.getD_eq_getD_getElem?, Array.getElem?_setIfInBounds]
        rw [if_neg e]
      simp only [Act.put]
      rw [this]
      exact h.sl t

/-- What is undefined is anything. -/
theorem cell?_look (w : World) (b o : Nat) : w.cell? ⟨b, o, none⟩ = look w.heap b o := by
  unfold World.cell? look
  cases w.heap[b]? with
  | none => rfl
  | some x => cases x <;> simp

theorem only_le (c : Cx) (refs : List Nat) : (c.only refs).le c :=
  ⟨Nat.le_refl _, fun _ _ hn => ⟨rfl, hn⟩, fun _ h => h.2, fun _ _ _ h => .inl h⟩

theorem RV.up {c : Cx} {refs : List Nat} {v : Value} {x : V} (h : RV (c.only refs) v x) : RV c v x := h.mono (only_le c refs)

theorem getD_some {α : Type} {l : List α} {i : Nat} {d x : α} (h : l[i]? = some x) : l.getD i d = x := by simp [List.getD, h]

theorem get_of_getD {α : Type} {l : List α} {i : Nat} {d : α} (h : i < l.length) : l[i]? = some (l.getD i d) := by
  simp [List.getD, List.getElem?_eq_getElem h]

/-- Cells that may be read are there. -/
theorem RV.cells {w : World} {H : Heap} {β : Nat → Hd} {F : Nat → Prop} {v : Value} {x : V} (hk : HOK w.heap H β F) (hr : RV (cx w.heap H β F) v x) (ho : okAt H x) :
    ∃ b o, v = .pointer (some ⟨b, o, none⟩) ∧ ∀ (k : Nat) (y : V), (cellsAt H x)[k]? = some y → ∃ u, look w.heap b (o + k) = some u ∧ u.oneCell' = true ∧ RV (cx w.heap H β F) u y := by
  cases hr with
  | ptr hl h =>
    rename_i id tot i j
    obtain ⟨h1, h2, h3⟩ := ho
    cases hid : H[id]? with
    | none => simp [List.getD, hid, O.isMem] at h1
    | some o =>
      have hgd : H.getD id .dead = o := getD_some hid
      simp only [cellsAt]
      rw [hgd] at h1 h2 ⊢
      cases o with
      | mem fz refs rows =>
        have hhd : hdOf H β id = some ((β id).wt rows.length) := by simp [hdOf, hid]
        obtain ⟨g1, g2⟩ := h _ hhd
        obtain ⟨g3, g4, g5⟩ := g2 h2
        rcases hk.ro id _ hid with hr | ⟨_, _, _, q4, _, cs, E, fr, q6, _, _, q9⟩
        · have g4' : (β id).nil = false := g4
          rw [hr.1] at g4'; cases g4'
        · refine ⟨_, _, g5, fun k y hy => ?_⟩
          simp only [O.rows] at h2 hy
          rw [List.getElem?_drop] at hy
          have hi : rows[i]? = some (rows.getD i []) := get_of_getD (by omega)
          obtain ⟨u, e, q, r⟩ := q9 i _ hi g3 _ _ hy
          refine ⟨u, ?_, q, r.up⟩
          unfold look
          have q6' : w.heap[((β id).wt rows.length).b]? = some (.cells cs E fr) := q6
          rw [q6']
          rw [← e]; simp only [Hd.wt]; congr 1; omega
      | res => simp [O.isMem] at h1
      | dead => simp [O.isMem] at h1
      | map => simp [O.isMem] at h1
      | sit => simp [O.isMem] at h1
      | tree => simp [O.isMem] at h1
  | ref g hb hs hg hr =>
    refine ⟨_, _, rfl, fun k y hy => ?_⟩
    simp only [cellsAt, List.getElem?_drop] at hy
    exact ⟨_, by rw [Nat.add_assoc]; exact (hg _ _ hy).1, (hg _ _ hy).2, (hr _ _ hy).up⟩
  | any => exact ho.elim
  | a => exact ho.elim
  | own => exact ho.elim
  | nilv => exact ho.elim
  | view => exact ho.elim
  | agg => exact ho.elim
  | tup => exact ho.elim
  | fn => exact ho.elim
  | mp => exact ho.elim
  | mview => exact ho.elim
  | nul => exact ho.elim
  | ifc => exact ho.elim

theorem addr_add (b o k : Nat) : (⟨b, o, none⟩ : Addr).add k = ⟨b, o + k, none⟩ := by
  unfold Addr.add; split
  · next h => subst h; rfl
  · rfl

theorem run_loadCellsFrom {P : Program} {w : World} {b o : Nat} {c : Cx} (ys : List V) : ∀ (n i : Nat) (acc : Array Value), n ≤ ys.length →
    (∀ (k : Nat) (y : V), ys[k]? = some y → ∃ u, look w.heap b (o + i + k) = some u ∧ u.oneCell' = true ∧ RV c u y) →
    ∃ vs : Array Value, (loadCellsFrom ⟨b, o, none⟩ i n acc).run P w = .ok (acc ++ vs) w ∧ vs.size = n ∧ (∀ (k : Nat) (u : Value), vs[k]? = some u → u.oneCell' = true) ∧ ∀ (k : Nat) (u : Value) (y : V), vs[k]? = some u → ys[k]? = some y → RV c u y := by
  induction ys with
  | nil =>
    intro n i acc hn h
    obtain rfl : n = 0 := by simpa using hn
    exact ⟨#[], by simp [loadCellsFrom], rfl, fun k u h => by simp at h, fun k u y h => by simp at h⟩
  | cons y ys ih =>
    intro n i acc hn h
    cases n with
    | zero => exact ⟨#[], by simp [loadCellsFrom], rfl, fun k u h => by simp at h, fun k u y h => by simp at h⟩
    | succ n =>
      obtain ⟨u, hu, ou, ru⟩ := h 0 y rfl
      obtain ⟨vs, h1, h2, h4, h3⟩ := ih n (i + 1) (acc.push u) (by simpa using hn) fun k y' hy => by
        obtain ⟨u', a, b⟩ := h (k + 1) y' hy
        exact ⟨u', by rw [← a]; congr 1; omega, b⟩
      refine ⟨#[u] ++ vs, ?_, by simp [h2]; omega, fun k u' hk => ?_, fun k u' y' hk hy => ?_⟩
      · simp only [loadCellsFrom, Sem.run_bind, run_load, addr_add, cell?_look]
        rw [show o + i = o + i + 0 from rfl, hu]
        simp only [Result.andThen_ok]
        rw [h1]; simp
      · cases k with
        | zero => simp [Array.getElem?_append] at hk; subst hk; exact ou
        | succ k =>
          simp only [Array.getElem?_append] at hk
          rw [if_neg (by simp)] at hk
          simp at hk
          exact h4 k u' hk
      · cases k with
        | zero => simp [Array.getElem?_append] at hk hy; subst hk hy; exact ru
        | succ k =>
          simp only [Array.getElem?_append] at hk
          rw [if_neg (by simp)] at hk
          simp at hk hy
          exact h3 k u' y' hk hy

def isAggP (P : Program) (t : TypeId) : Option Bool :=
  match P.underlying t with
  | some (.struct _) | some (.array _ _) => some true
  | some _ => some false
  | none => none

/-- Load n cells (agg) or one. -/
def ldV (hp : Heap) (agg : Bool) (n : Nat) (x : V) : V := if agg then .agg ((cellsAt hp x).take n) else (cellsAt hp x).headD .any
def ldP (hp : Heap) (agg : Bool) (n : Nat) (x : V) : Prop := okAt hp x ∧ (if agg then n else 1) ≤ (cellsAt hp x).length

theorem run_isAgg {P : Program} {w : World} {t : TypeId} {b : Bool} (h : isAggP P t = some b) : (isAgg t).run P w = .ok b w := by
  unfold isAggP at h
  unfold isAgg underlying
  cases hu : P.underlying t with
  | none => rw [hu] at h; cases h
  | some d => rw [hu] at h; simp only [Sem.run_bind, run_program, Result.andThen_ok, hu]; cases d <;> simp_all

theorem run_typeInfo' {P : Program} {w : World} {t : TypeId} {i : TypeInfo} (h : P.info? t = some i) : (typeInfo t).run P w = .ok i w := by
  unfold typeInfo; simp [h]

theorem run_sizeOf' {P : Program} {w : World} {t : TypeId} {i : TypeInfo} (h : P.info? t = some i) : (sizeOf t).run P w = .ok i.size w := by
  unfold sizeOf; simp [run_typeInfo' h]

theorem run_underlying' {P : Program} {w : World} {t : TypeId} {d : TypeDesc} (h : P.underlying t = some d) : (underlying t).run P w = .ok d w := by
  unfold underlying; simp [h]

theorem run_zeroValue' {P : Program} {w : World} {t : TypeId} {i : TypeInfo} {z : Value} (h : P.info? t = some i) (hz : i.zero = some z) : (zeroValue t).run P w = .ok z w := by
  unfold zeroValue; simp [run_typeInfo' h, hz]

theorem run_loadVar' {P : Program} {w : World} {H : Heap} {β : Nat → Hd} {F : Nat → Prop} {v : Value} {x : V} {t : TypeId} {i : TypeInfo} {agg : Bool}
    (hk : HOK w.heap H β F) (hr : RV (cx w.heap H β F) v x) (hi : P.info? t = some i) (ha : isAggP P t = some agg) (hp : ldP H agg i.size x) :
    ∃ u, (Instr.loadAt t v).run P w = .ok u w ∧ RV (cx w.heap H β F) u (ldV H agg i.size x) := by
  obtain ⟨ho, hn⟩ := hp
  obtain ⟨b, o, rfl, hc⟩ := hr.cells hk ho
  unfold Instr.loadAt Instr.sureAddr loadVar
  simp only [Sem.run_bind, Sem.run_pure, Result.andThen_ok, run_isAgg ha]
  cases agg with
  | true =>
    simp only [if_true] at hn
    obtain ⟨vs, h1, h2, h4, h3⟩ := run_loadCellsFrom (P := P) (w := w) (b := b) (o := o) (c := cx w.heap H β F) (cellsAt H x) i.size 0 #[] hn (by simpa using hc)
    refine ⟨.agg vs, ?_, ?_⟩
    · simp [run_sizeOf' hi, loadCells, h1]
    · simp only [ldV, if_true]
      refine .agg (by simp [h2, hn]) h4 fun k u y hk hy => h3 k u y hk ?_
      rw [List.getElem?_take] at hy
      split at hy
      · exact hy
      · cases hy
  | false =>
    simp only [Bool.false_eq_true, if_false] at hn
    cases hcl : cellsAt H x with
    | nil => rw [hcl] at hn; simp at hn
    | cons y ys =>
      obtain ⟨u, hu, _, ru⟩ := hc 0 y (by rw [hcl]; rfl)
      refine ⟨u, ?_, ?_⟩
      · simp only [Bool.false_eq_true, if_false, run_load, cell?_look]
        rw [show o = o + 0 from rfl, hu]
      · simp [ldV, hcl]; exact ru

end Go.Abs

/- Operations that leave memory alone: what they come to. -/
namespace Go.Abs

/-- An operation without an effect on memory, its types resolved. -/
inductive L where
  | mov (x : Operand)
  | pick (c a b : Operand)
  | bin (op : BinOp) (x y : Operand)
  | eqB (neg : Bool) (x y : Operand)                  -- of bools
  | eqN (neg : Bool) (x : Operand)                    -- a slice against nil
  | un (op : UnOp) (x : Operand)
  | ld (agg : Bool) (n : Nat) (x : Operand)
  | nilc (x : Operand)
  | fad (x : Operand) (off : Nat)
  | fld (agg : Bool) (n off : Nat) (x : Operand)
  | ixS (es : Nat) (x i : Operand)
  | ixA (len es : Nat) (x i : Operand)
  | ixStr (x i : Operand)
  | ixV (agg : Bool) (len es : Nat) (x i : Operand)
  | ext (x : Operand) (i : Nat)
  | lenStr (x : Operand)
  | lenSl (x : Operand)
  | lenArr (n : Nat)
  | conv (k : IntKind) (x : Operand)
  | build (zero : List V) (parts : List (Nat × Nat × Operand))
  | mkfn (fn : Fn) (first cap : List Operand)
  | slStr (x : Operand) (lo hi : Option Operand)
  | slSl (es : Nat) (x : Operand) (lo hi : Option Operand)
  | slZ (es : Nat) (x : Operand)                                 -- x[:0:0]
  | slM (es : Nat) (x hi mx : Operand)                           -- x[:hi:mx] of what is never written again
  | mkif (t : TypeId) (x : Operand)
  | mxm (mx : Bool) (xs : List Operand)
  | lkp (ok : Bool) (k : IntKind) (zero : V) (m x : Operand)     -- in a map whose keys are whole numbers
  | lenMp (m : Operand)
  | eqD (neg : Bool) (offs : List (Nat × Nat)) (x y : Operand)   -- of structs: each field's place and kind (0 number, 1 text, 2 bool)
  | cvBS (x : Operand)                                           -- bytes to text
  | eqZ (kd : Nat) (neg : Bool) (x : Operand)                    -- an address, a map, a function against nil

def V.isInt : V → Bool
  | .a (.int ..) => true
  | _ => false
def V.kindOf : V → IntKind
  | .a (.int k _) => k
  | _ => .i64
def V.num : V → Int
  | .a (.int _ n) => n
  | _ => 0
def V.isBool : V → Bool
  | .a (.bool _) => true
  | _ => false
def V.tru : V → Bool
  | .a (.bool b) => b
  | _ => false
def V.isStr : V → Bool
  | .a (.string _) => true
  | _ => false
def V.txt : V → ByteArray
  | .a (.string s) => s
  | _ => .empty

theorem V.eq_int {x : V} (h : x.isInt = true) : x = .a (.int x.kindOf x.num) := by
  cases x with
  | a v => cases v <;> first | rfl | simp [V.isInt] at h
  | _ => simp [V.isInt] at h
theorem V.eq_bool {x : V} (h : x.isBool = true) : x = .a (.bool x.tru) := by
  cases x with
  | a v => cases v <;> first | rfl | simp [V.isBool] at h
  | _ => simp [V.isBool] at h
theorem V.eq_str {x : V} (h : x.isStr = true) : x = .a (.string x.txt) := by
  cases x with
  | a v => cases v <;> first | rfl | simp [V.isStr] at h
  | _ => simp [V.isStr] at h

theorem RV.of_a {c : Cx} {v u : Value} (h : RV c v (.a u)) : v = u := by cases h; rfl

/-- The whole numbers' operations. -/
def binI (op : BinOp) (k : IntKind) (x y : Int) : Value :=
  match op with
  | .add => .int k (k.wrap (x + y))
  | .sub => .int k (k.wrap (x - y))
  | .mul => .int k (k.wrap (x * y))
  | .quo => .int k (k.wrap (x.tdiv y))
  | .rem => .int k (x.tmod y)
  | .and => .int k (k.wrap (BitVec.ofInt k.bits x &&& BitVec.ofInt k.bits y).toNat)
  | .or => .int k (k.wrap (BitVec.ofInt k.bits x ||| BitVec.ofInt k.bits y).toNat)
  | .xor => .int k (k.wrap (BitVec.ofInt k.bits x ^^^ BitVec.ofInt k.bits y).toNat)
  | .andNot => .int k (k.wrap (BitVec.ofInt k.bits x &&& ~~~(BitVec.ofInt k.bits y)).toNat)
  | .shl => .int k (k.wrap (x * 2 ^ (min y.toNat k.bits)))
  | .shr => .int k (x.fdiv (2 ^ (min y.toNat k.bits)))
  | .eql => .bool (x == y)
  | .neq => .bool (x != y)
  | .lss => .bool (decide (x < y))
  | .leq => .bool (decide (x ≤ y))
  | .gtr => .bool (decide (x > y))
  | .geq => .bool (decide (x ≥ y))

def binIP (op : BinOp) (k k' : IntKind) (y : Int) : Prop :=
  match op with
  | .shl | .shr => 0 ≤ y
  | .quo | .rem => k = k' ∧ y ≠ 0
  | _ => k = k'

def binS (op : BinOp) (x y : ByteArray) : Value :=
  match op with
  | .add => .string (x ++ y)
  | .eql => .bool (x.toList == y.toList)
  | .neq => .bool !(x.toList == y.toList)
  | .lss => .bool (Op.bytesLess x.toList y.toList)
  | .leq => .bool (Op.bytesLess x.toList y.toList || x.toList == y.toList)
  | .gtr => .bool !(Op.bytesLess x.toList y.toList || x.toList == y.toList)
  | .geq => .bool !(Op.bytesLess x.toList y.toList)
  | _ => .bool false

def binSP (op : BinOp) (x y : ByteArray) : Prop :=
  match op with
  | .add => x.size + y.size ≤ 9223372036854775807
  | .eql | .neq | .lss | .leq | .gtr | .geq => True
  | _ => False

def binV (op : BinOp) : V → V → V
  | .a (.int k x), .a (.int _ y) => .a (binI op k x y)
  | .a (.string s), .a (.string t) => .a (binS op s t)
  | _, _ => .any

def binP (op : BinOp) : V → V → Prop
  | .a (.int k _), .a (.int k' y) => binIP op k k' y
  | .a (.string s), .a (.string t) => binSP op s t
  | _, _ => False

theorem eqGuard_int {op : BinOp} {t : TypeId} {x y : Operand} {k k' : IntKind} {a b : Int} {P : Program} {w : World} :
    (eqGuard op t x y (.int k a) (.int k' b)).run P w = .ok () w := by
  unfold eqGuard; split <;> simp

theorem eqGuard_str {op : BinOp} {t : TypeId} {x y : Operand} {a b : ByteArray} {P : Program} {w : World} :
    (eqGuard op t x y (.string a) (.string b)).run P w = .ok () w := by
  unfold eqGuard; split <;> simp

theorem run_binOp_int {P : Program} {w : World} {op : BinOp} {t : TypeId} {k k' : IntKind} {x y : Int} (h : binIP op k k' y) :
    (binOp op t (.int k x) (.int k' y)).run P w = .ok (binI op k x y) w := by
  cases op <;> simp only [binIP] at h <;> first
    | (obtain ⟨rfl, hy⟩ := h; simp [binOp, Op.intDiv, hy, binI]; done)
    | (simp [binOp, Op.shift, binI, show ¬ y < 0 from by omega]; done)
    | (subst h; simp [binOp, Op.intArith, Op.intCmp, Op.intBits, binI]; done)

theorem run_binOp_str {P : Program} {w : World} {op : BinOp} {t : TypeId} {x y : ByteArray} (h : binSP op x y) :
    (binOp op t (.string x) (.string y)).run P w = .ok (binS op x y) w := by
  cases op <;> simp only [binSP] at h <;> first
    | exact h.elim
    | (have h' : ¬ (((x.size + y.size : Nat) : Int) > IntKind.i64.max) := by simp only [IntKind.max, IntKind.signed, IntKind.bits]; omega
       simp only [binOp, Op.stringOp, binS, if_neg h', Sem.run_pure]; done)
    | (simp [binOp, Op.stringOp, binS]; done)

def V.cells : V → List V
  | .agg cs => cs
  | x => [x]

/-- Cells with parts laid over them. -/
def fillV : List V → List (Nat × Nat × V) → List V
  | cs, [] => cs
  | cs, (off, _, x) :: l => fillV (cs.take off ++ x.cells ++ cs.drop (off + x.cells.length)) l

def V.slLen : V → Int
  | .own _ _ _ len _ => len
  | .view _ rows => rows.length
  | _ => 0

def V.isA : V → Bool
  | .a _ => true
  | _ => false

def V.nilSl : V → Bool
  | .a (.slice none 0 0) => true
  | _ => false

def O.isMap : O → Bool
  | .map .. => true
  | _ => false

/-- Has it so many rows? -/
def O.hasTot : O → Nat → Prop
  | .mem _ _ rows, n => rows.length = n
  | .tree _ rows, n => rows.length = n
  | _, _ => False

/-- Is it surely one cell's value? -/
def V.one (hp : Heap) : V → Prop
  | .a v => v.oneCell' = true
  | .ptr id tot _ _ => (hp.getD id .dead).hasTot tot
  | .own id _ _ _ tot => (hp.getD id .dead).isMem = true ∧ (hp.getD id .dead).rows.length = tot
  | .mp id => (hp.getD id .dead).isMap = true
  | .any | .agg _ | .tup _ => False
  | _ => True

/-- Is it surely a value of so many cells? -/
def V.sized (hp : Heap) (n : Nat) : V → Prop
  | .agg cs => cs.length = n
  | x => x.one hp ∧ n = 1

/-- Is it a slice of a known length? -/
def okSl (hp : Heap) : V → Prop
  | .own id _ _ _ tot => (hp.getD id .dead).isMem = true ∧ (hp.getD id .dead).rows.length = tot
  | .view _ _ => True
  | .nul _ => True
  | .a (.slice none 0 0) => True
  | .a (.slice (some _) 0 _) => True
  | _ => False

/-- A slice that is never written again. -/
def V.isView (es : Nat) : V → Prop
  | .view e _ => e = es
  | _ => False
def V.rowsV : V → List (List V)
  | .view _ rows => rows
  | _ => []

def V.slEs (es : Nat) : V → Prop
  | .own _ e _ _ _ => e = es
  | .view e _ => e = es
  | .nul e => e = es
  | _ => True

def V.elemAt (i : Nat) : V → V
  | .own id _ off _ tot => .ptr id tot (off + i) 0
  | .view _ rows => .ref (rows.getD i []) 0
  | _ => .any

def V.plus (n : Nat) : V → V
  | .ptr id tot i j => .ptr id tot i (j + n)
  | .ref row j => .ref row (j + n)
  | _ => .any

def V.cut (lo hi : Nat) : V → V
  | .own id es off _ tot => .own id es (off + lo) (hi - lo) tot
  | .view es rows => .view es ((rows.drop lo).take (hi - lo))
  | x => x

def optN (st : St) (d : Int) : Option Operand → Int
  | none => d
  | some x => (st.ev x).num
def optP (st : St) : Option Operand → Prop
  | none => True
  | some x => (st.ev x).isInt = true

def mxI (mx : Bool) (x y : Int) : Int := if mx then (if y > x then y else x) else (if y < x then y else x)

def byteAt (s : ByteArray) (i : Nat) : Int := ((s.data.toList.getD i 0).toNat : Int)

/-- A slice's rows. -/
def V.rowsOf (H : Heap) : V → List (List V)
  | .own id _ off len _ => ((H.getD id .dead).rows.drop off).take len
  | .view _ rows => rows
  | _ => []

def O.ents : O → List (V × V)
  | .map _ _ es => es
  | _ => []

/-- What a map holds. -/
def V.entsOf (H : Heap) : V → List (V × V)
  | .mp id => (H.getD id .dead).ents
  | .mview es => es
  | _ => []

def okMp (H : Heap) : V → Prop
  | .mp id => (H.getD id .dead).isMap = true
  | .mview _ => True
  | .a (.map none) => True
  | _ => False

def V.isKey (k : IntKind) : V → Bool
  | .a (.int k' _) => decide (k' = k)
  | _ => false

def getE (es : List (V × V)) (n : Int) : Option V := (es.find? fun e => e.1.num == n).map (·.2)

def isK : Nat → V → V → Bool
  | 0, .a (.int k _), .a (.int k' _) => decide (k = k')
  | 1, .a (.string _), .a (.string _) => true
  | 2, .a (.bool _), .a (.bool _) => true
  | _, _, _ => false

def eqK : V → V → Bool
  | .a (.int _ x), .a (.int _ y) => x == y
  | .a (.string s), .a (.string t) => s.toList == t.toList
  | .a (.bool p), .a (.bool q) => p == q
  | _, _ => false

def V.isByte : V → Bool
  | .a (.int .u8 _) => true
  | _ => false

def bytesOf (rows : List (List V)) : ByteArray := ⟨(rows.map fun r => UInt8.ofNat (r.headD .any).num.toNat).toArray⟩

/-- Is it surely nil (some true), surely not (some false)? 0: an address, 1: a map, 2: a function -/
def V.nilK : Nat → V → Option Bool
  | 0, .a (.pointer none) => some true
  | 1, .a (.map none) => some true
  | 2, .a .nilFunc => some true
  | 0, .ptr .. => some false
  | 0, .ref .. => some false
  | 1, .mview _ => some false
  | 1, .mp _ => some false
  | 2, .fn .. => some false
  | _, _ => none

def okNil (hp : Heap) : V → Prop
  | .fn (.func _) _ _ => True
  | x => okAt hp x

def O.isTree : O → Bool
  | .tree .. => true
  | _ => false
def O.trows : O → Nat
  | .tree _ rows => rows.length
  | _ => 0

def okZ (hp : Heap) : V → Prop
  | .ptr id tot i j => okAt hp (.ptr id tot i j) ∨ ((hp.getD id .dead).isTree = true ∧ (hp.getD id .dead).trows = tot)
  | .mp id => (hp.getD id .dead).isMap = true
  | _ => True

def L.pre (l : L) (st : St) : Prop :=
  match l with
  | .mov _ | .lenArr _ | .mkfn .. | .mkif .. => True
  | .pick c _ _ => (st.ev c).isBool = true
  | .bin op x y => binP op (st.ev x) (st.ev y)
  | .eqB _ x y => (st.ev x).isBool = true ∧ (st.ev y).isBool = true
  | .eqN _ x => okSl st.hp (st.ev x) ∧ ((st.ev x).nilSl = true ∨ (st.ev x).slLen ≠ 0 ∨ (st.ev x).isA = true)
  | .un op x => match op with
    | .neg => (st.ev x).isInt = true
    | .not => (st.ev x).isBool = true
    | _ => False
  | .ld agg n x => ldP st.hp agg n (st.ev x)
  | .nilc x => okNil st.hp (st.ev x)
  | .fad x _ => okAt st.hp (st.ev x)
  | .fld agg n off x => match st.ev x with
    | .agg cs => (if agg then off + n else off + 1) ≤ cs.length
    | _ => False
  | .ixS es x i => okSl st.hp (st.ev x) ∧ (st.ev x).slEs es ∧ (st.ev i).isInt = true ∧ 0 ≤ (st.ev i).num ∧ (st.ev i).num < (st.ev x).slLen
  | .ixA len _ x i => okAt st.hp (st.ev x) ∧ (st.ev i).isInt = true ∧ 0 ≤ (st.ev i).num ∧ (st.ev i).num < len
  | .ixStr x i => (st.ev x).isStr = true ∧ (st.ev i).isInt = true ∧ 0 ≤ (st.ev i).num ∧ (st.ev i).num < (st.ev x).txt.size
  | .ixV agg len es x i => (st.ev i).isInt = true ∧ 0 ≤ (st.ev i).num ∧ (st.ev i).num < len ∧ match st.ev x with
    | .agg cs => (st.ev i).num.toNat * es + (if agg then es else 1) ≤ cs.length
    | _ => False
  | .ext x i => match st.ev x with
    | .tup vs => i < vs.length
    | _ => False
  | .lenStr x => (st.ev x).isStr = true
  | .lenSl x => okSl st.hp (st.ev x)
  | .conv _ x => (st.ev x).isInt = true
  | .build zero parts => ∀ p ∈ parts, (st.ev p.2.2).sized st.hp p.2.1 ∧ p.1 + p.2.1 ≤ zero.length
  | .slStr x lo hi => (st.ev x).isStr = true ∧ optP st lo ∧ optP st hi ∧ 0 ≤ optN st 0 lo ∧ optN st 0 lo ≤ optN st (st.ev x).txt.size hi ∧ optN st (st.ev x).txt.size hi ≤ (st.ev x).txt.size
  | .slSl es x lo hi => okSl st.hp (st.ev x) ∧ (st.ev x).slEs es ∧ optP st lo ∧ optP st hi ∧ 0 ≤ optN st 0 lo ∧ optN st 0 lo ≤ optN st (st.ev x).slLen hi ∧ optN st (st.ev x).slLen hi ≤ (st.ev x).slLen
  | .slZ es x => okSl st.hp (st.ev x) ∧ (st.ev x).slEs es
  | .slM es x hi mx => (st.ev x).isView es ∧ (st.ev hi).isInt = true ∧ (st.ev mx).isInt = true ∧ 0 ≤ (st.ev hi).num ∧ (st.ev hi).num ≤ (st.ev mx).num ∧ (st.ev mx).num ≤ (st.ev x).slLen
  | .mxm _ xs => match xs with
    | x :: rest => (st.ev x).isInt = true ∧ ∀ y ∈ rest, (st.ev y).isInt = true
    | [] => False
  | .lkp _ k _ m x => okMp st.hp (st.ev m) ∧ (∀ e ∈ (st.ev m).entsOf st.hp, e.1.isKey k = true) ∧ (st.ev x).isKey k = true
  | .lenMp m => okMp st.hp (st.ev m)
  | .eqD _ offs x y => match st.ev x, st.ev y with
    | .agg cs, .agg ds => ∀ o ∈ offs, isK o.2 (cs.getD o.1 .any) (ds.getD o.1 .any) = true
    | _, _ => False
  | .cvBS x => okSl st.hp (st.ev x) ∧ (st.ev x).slEs 1 ∧ ∀ r ∈ (st.ev x).rowsOf st.hp, (r.headD .any).isByte = true
  | .eqZ kd _ x => ((st.ev x).nilK kd).isSome = true ∧ okZ st.hp (st.ev x)

def L.val (l : L) (st : St) : V :=
  match l with
  | .mov x => st.ev x
  | .pick c a b => if (st.ev c).tru then st.ev a else st.ev b
  | .bin op x y => binV op (st.ev x) (st.ev y)
  | .eqB neg x y => .bool ((st.ev x).tru == (st.ev y).tru ^^ neg)
  | .eqN neg x => .bool ((st.ev x).nilSl ^^ neg)
  | .un op x => match op with
    | .neg => .int (st.ev x).kindOf ((st.ev x).kindOf.wrap (0 - (st.ev x).num))
    | _ => .bool (!(st.ev x).tru)
  | .ld agg n x => ldV st.hp agg n (st.ev x)
  | .nilc x => st.ev x
  | .fad x off => (st.ev x).plus off
  | .fld agg n off x => if agg then .agg (((st.ev x).cells.drop off).take n) else (st.ev x).cells.getD off .any
  | .ixS _ x i => (st.ev x).elemAt (st.ev i).num.toNat
  | .ixA _ es x i => (st.ev x).plus ((st.ev i).num.toNat * es)
  | .ixStr x i => .int .u8 (byteAt (st.ev x).txt (st.ev i).num.toNat)
  | .ixV agg _ es x i => if agg then .agg (((st.ev x).cells.drop ((st.ev i).num.toNat * es)).take es) else (st.ev x).cells.getD ((st.ev i).num.toNat * es) .any
  | .ext x i => match st.ev x with
    | .tup vs => vs.getD i .any
    | _ => .any
  | .lenStr x => .int .i64 (st.ev x).txt.size
  | .lenSl x => .int .i64 (st.ev x).slLen
  | .lenArr n => .int .i64 n
  | .conv k x => .int k (k.wrap (st.ev x).num)
  | .build zero parts => .agg (fillV zero (parts.map fun p => (p.1, p.2.1, st.ev p.2.2)))
  | .mkfn fn first cap => .fn fn (first.map st.ev) (cap.map st.ev)
  | .slStr x lo hi => .str ((st.ev x).txt.extract (optN st 0 lo).toNat (optN st (st.ev x).txt.size hi).toNat)
  | .slSl _ x lo hi => (st.ev x).cut (optN st 0 lo).toNat (optN st (st.ev x).slLen hi).toNat
  | .slZ es _ => .nul es
  | .slM es x hi _ => .view es ((st.ev x).rowsV.take (st.ev hi).num.toNat)
  | .mkif t x => .ifc t (st.ev x)
  | .mxm mx xs => match xs with
    | x :: rest => .int (st.ev x).kindOf (rest.foldl (fun n y => mxI mx n (st.ev y).num) (st.ev x).num)
    | [] => .any
  | .lkp ok _ zero m x => match getE ((st.ev m).entsOf st.hp) (st.ev x).num with
    | some v => if ok then .tup [v, .bool true] else v
    | none => if ok then .tup [zero, .bool false] else zero
  | .lenMp m => .int .i64 ((st.ev m).entsOf st.hp).length
  | .eqD neg offs x y => .bool ((offs.all fun o => eqK ((st.ev x).cells.getD o.1 .any) ((st.ev y).cells.getD o.1 .any)) ^^ neg)
  | .cvBS x => .str (bytesOf ((st.ev x).rowsOf st.hp))
  | .eqZ kd neg x => .bool (((st.ev x).nilK kd == some true) ^^ neg)

def isNilSl : Operand → Bool
  | .const (.slice none _ _) => true
  | _ => false

def isNilZ : Nat → Operand → Bool
  | 0, .const (.pointer none) => true
  | 1, .const (.map none) => true
  | 2, .const .nilFunc => true
  | _, _ => false

def cmpEqF (P : Program) (f : Field) : Option (Nat × Nat) :=
  if f.name = "_" then none else
  match P.underlying f.type with
  | some (.int _) => (P.info? f.type).bind fun i => if i.size = 1 then some (f.offset, 0) else none
  | some .string => (P.info? f.type).bind fun i => if i.size = 1 then some (f.offset, 1) else none
  | some .bool => (P.info? f.type).bind fun i => if i.size = 1 then some (f.offset, 2) else none
  | _ => none

def cmpBin (P : Program) (op : BinOp) (t : TypeId) (x y : Operand) : Option L :=
  match P.underlying t with
  | some (.int _) => some (.bin op x y)
  | some .string => some (.bin op x y)
  | some .bool => if op = .eql then some (.eqB false x y) else if op = .neq then some (.eqB true x y) else none
  | some (.struct fs) => if P.eqGuardType P.depth t || P.stoodInHeld t then none else
      (fs.toList.mapM fun f => cmpEqF P f).bind fun offs => if op = .eql then some (.eqD false offs x y) else if op = .neq then some (.eqD true offs x y) else none
  | some (.array n e) => if P.eqGuardType P.depth t then none else
      match P.underlying e with
      | some (.int _) => (P.info? e).bind fun i => if i.size = 1 then (if op = .eql then some (.eqD false ((List.range n).map fun k => (k, 0)) x y) else if op = .neq then some (.eqD true ((List.range n).map fun k => (k, 0)) x y) else none) else none
      | _ => none
  | some (.pointer _) => if isNilZ 0 y then (if op = .eql then some (.eqZ 0 false x) else if op = .neq then some (.eqZ 0 true x) else none) else none
  | some (.map _ _) => if isNilZ 1 y then (if op = .eql then some (.eqZ 1 false x) else if op = .neq then some (.eqZ 1 true x) else none) else none
  | some (.func _ _ _) => if isNilZ 2 y then (if op = .eql then some (.eqZ 2 false x) else if op = .neq then some (.eqZ 2 true x) else none) else none
  | some (.slice _) => if isNilSl y then (if op = .eql then some (.eqN false x) else if op = .neq then some (.eqN true x) else none) else none
  | _ => none

def cmpFad (P : Program) (s : TypeId) (x : Operand) (f : Nat) : Option L :=
  match P.underlying s with
  | some (.struct fs) => (fs[f]?).bind fun fd => (P.info? fd.type).bind fun i => if i.size = 0 then none else some (.fad x fd.offset)
  | _ => none

def cmpFld (P : Program) (s : TypeId) (x : Operand) (f : Nat) : Option L :=
  match P.underlying s with
  | some (.struct fs) => (fs[f]?).bind fun fd => (P.info? fd.type).bind fun i => (isAggP P fd.type).bind fun agg => some (.fld agg i.size fd.offset x)
  | _ => none

def cmpIxA (P : Program) (t : TypeId) (x i : Operand) : Option L :=
  match P.underlying t with
  | some (.slice e) => (P.info? e).bind fun inf => some (.ixS inf.size x i)
  | some (.array n e) => (P.info? e).bind fun inf => some (.ixA n inf.size x i)
  | _ => none

def cmpIx (P : Program) (t : TypeId) (x i : Operand) : Option L :=
  match P.underlying t with
  | some .string => some (.ixStr x i)
  | some (.array n e) => (P.info? e).bind fun inf => (isAggP P e).bind fun agg => some (.ixV agg n inf.size x i)
  | _ => none

def cmpConv (P : Program) (s d : TypeId) (x : Operand) : Option L :=
  match P.underlying s, P.underlying d with
  | some (.int _), some (.int k) => some (.conv k x)
  | some (.slice e), some .string => match P.underlying e with
    | some (.int .u8) => (P.info? e).bind fun i => if i.size = 1 then some (.cvBS x) else none
    | _ => none
  | _, _ => none

def cmpLkp (P : Program) (t : TypeId) (x i : Operand) (ok : Bool) : Option L :=
  match P.underlying t with
  | some (.map k e) => match P.underlying k with
    | some (.int kd) => (P.info? e).bind fun inf => inf.zero.bind fun z => match z with
      | .agg vs => if vs.toList.all (·.oneCell') then some (.lkp ok kd (.agg (vs.toList.map .a)) x i) else none
      | z => some (.lkp ok kd (.a z) x i)
    | _ => none
  | _ => none

def cmpBuild (P : Program) (t : TypeId) (parts : List (Nat × Operand)) : Option L :=
  (P.info? t).bind fun i => i.zero.bind fun z => if !(z.cells.toList.all (·.oneCell')) then none else
  match P.underlying t with
  | some (.struct fs) => if !(fs.toList.all fun f => (P.info? f.type).isSome) then none else
      (parts.mapM fun p => (fs[p.1]?).bind fun f => (P.info? f.type).map fun fi => (f.offset, fi.size, p.2)).map (.build (z.cells.toList.map .a))
  | some (.array _ e) => (P.info? e).bind fun ei => some (.build (z.cells.toList.map .a) (parts.map fun p => (p.1 * ei.size, ei.size, p.2)))
  | _ => none

def cmpMkif (P : Program) (t : TypeId) (x : Operand) : Option L :=
  match P.underlying t with
  | some (.interface _) => none
  | some _ => some (.mkif t x)
  | none => none

def cmpSl (P : Program) (t : TypeId) (x : Operand) (lo hi : Option Operand) : Option L :=
  match P.underlying t with
  | some .string => some (.slStr x lo hi)
  | some (.slice e) => (P.info? e).bind fun i => some (.slSl i.size x lo hi)
  | _ => none

def isZero : Option Operand → Bool
  | some (.const (.int _ n)) => n == 0
  | _ => false

def cmpSlZ (P : Program) (t : TypeId) (x : Operand) (lo hi mx : Option Operand) : Option L :=
  match P.underlying t with
  | some (.slice e) => if lo.isNone && isZero hi && isZero mx then (P.info? e).bind fun i => some (.slZ i.size x) else
      match lo, hi, mx with
      | none, some h, some m => (P.info? e).bind fun i => some (.slM i.size x h m)
      | _, _, _ => none
  | _ => none

def cmpLen (P : Program) (t : TypeId) (x : Operand) : Option L :=
  match P.underlying t with
  | some .string => some (.lenStr x)
  | some (.slice _) => some (.lenSl x)
  | some (.array n _) => some (.lenArr n)
  | some (.map _ _) => some (.lenMp x)
  | _ => none

def cmpBi (P : Program) (b : Builtin) (args : Array Operand) (argTypes : Array TypeId) : Option L :=
  match b with
  | .len => (argTypes[0]?).bind fun t => (args[0]?).bind fun x => cmpLen P t x
  | .max => some (.mxm true args.toList)
  | .min => some (.mxm false args.toList)
  | _ => none

/-- An operation's types, resolved. -/
def cmpL (P : Program) (op : Op) : Option L :=
  match op with
  | .move x => some (.mov x)
  | .assign x => some (.mov x)
  | .pick c a b => some (.pick c a b)
  | .binOp op t x y _ => cmpBin P op t x y
  | .unOp op _ x => if op = .neg then some (.un .neg x) else if op = .not then some (.un .not x) else none
  | .load t x => (P.info? t).bind fun i => (isAggP P t).bind fun agg => some (.ld agg i.size x)
  | .nilCheck x => some (.nilc x)
  | .fieldAddr s x f => cmpFad P s x f
  | .field s x f => cmpFld P s x f
  | .indexAddr t x i => cmpIxA P t x i
  | .index t x i => cmpIx P t x i
  | .extract x i => some (.ext x i)
  | .convert s d x => cmpConv P s d x
  | .build t parts => cmpBuild P t parts.toList
  | .makeFunc fn first cap => some (.mkfn fn first.toList cap.toList)
  | .makeInterface t x => cmpMkif P t x
  | .slice t x lo hi mx => if mx.isNone then cmpSl P t x lo hi else cmpSlZ P t x lo hi mx
  | .lookup t x i ok => cmpLkp P t x i ok
  | .call c => match c.callee with
    | .builtin b => cmpBi P b c.args c.argTypes
    | _ => none
  | _ => none

end Go.Abs

/- Operations that leave memory alone: the machine does so. -/
namespace Go.Abs
set_option linter.unusedVariables false

section
variable {w : World} {H : Heap} {β : Nat → Hd} {F : Nat → Prop}

theorem mem_get {id : Nat} (h : (H.getD id .dead).isMem = true) : ∃ fz refs rows, H[id]? = some (.mem fz refs rows) ∧ (H.getD id .dead).rows = rows := by
  cases hid : H[id]? with
  | none => simp [List.getD, hid, O.isMem] at h
  | some o =>
    have hgd : H.getD id .dead = o := getD_some hid
    rw [hgd] at h ⊢
    cases o with
    | mem fz refs rows => exact ⟨_, _, _, rfl, rfl⟩
    | _ => simp [O.isMem] at h

theorem RV.sl {v : Value} {x : V} (hk : HOK w.heap H β F) (hr : RV (cx w.heap H β F) v x) (ho : okSl H x) :
    ∃ base len cap, v = .slice base len cap ∧ (len : Int) = x.slLen ∧ len ≤ cap ∧ (x.nilSl = true → base = none ∧ cap = 0) ∧
      ∀ es, x.slEs es → ∀ i, i < len → ∃ ad, base = some ad ∧ RV (cx w.heap H β F) (.pointer (some (ad.add (i * es)))) (x.elemAt i) := by
  cases hr with
  | own hl h =>
    rename_i id es off len tot
    obtain ⟨h1, h2⟩ := ho
    obtain ⟨fz, refs, rows, hid, hrw⟩ := mem_get h1
    rw [hrw] at h2
    obtain ⟨g1, g2⟩ := h ((β id).wt rows.length) (by show hdOf H β id = _; simp [hdOf, hid])
    obtain ⟨g3, g4, g5⟩ := g2 h2
    rcases g5 with ⟨g6, ⟨ad, rfl⟩, rfl⟩ | ⟨g6, ad, rfl, g7, g8⟩
    · exact ⟨ad, 0, 0, rfl, rfl, Nat.le_refl _, fun e => by simp [V.nilSl] at e, fun es _ i hi => by omega⟩
    · have g6' : (β id).nil = false := g6
      have g7' : off + len ≤ rows.length := g7
      have g3' : (β id).lo ≤ off := g3
      rcases hk.ro id _ hid with hr | ⟨_, q2, q3, _⟩
      · rw [hr.1] at g6'; cases g6'
      · refine ⟨some ad, len, _, rfl, rfl, ?_, fun e => by simp [V.nilSl] at e, fun es' he i hi => ⟨ad, rfl, ?_⟩⟩
        · show len ≤ (β id).cap - (off - (β id).lo); omega
        · have he : es = es' := he
          subst he
          have hlt : off - (β id).lo < (β id).cap := by omega
          have g8' : ad = ⟨(β id).b, (β id).o + (off - (β id).lo) * (β id).es, none⟩ := g8 hlt
          have g4' : (β id).es = es := g4
          rw [g8', addr_add]
          refine .ptr hl fun h0 e0 => ?_
          have e1 : hdOf H β id = some ((β id).wt rows.length) := by simp [hdOf, hid]
          have e2 : some h0 = some ((β id).wt rows.length) := e0.symm.trans e1
          injection e2 with e2
          subst e2
          refine ⟨g1, fun _ => ⟨?_, g6, ?_⟩⟩
          · show (β id).lo ≤ off + i; omega
          · show Value.pointer _ = Value.pointer (some ⟨(β id).b, (β id).o + (off + i - (β id).lo) * (β id).es + 0, none⟩)
            rw [g4', show off + i - (β id).lo = (off - (β id).lo) + i from by omega, Nat.add_mul, Nat.add_zero, Nat.add_assoc]
  | nilv => exact ⟨none, 0, 0, rfl, rfl, Nat.le_refl _, fun e => ⟨rfl, rfl⟩, fun es _ i hi => by omega⟩
  | view g hb hcap hlen hg hr =>
    rename_i es rows ad cap
    refine ⟨some ad, rows.length, cap, rfl, rfl, hcap, fun e => by simp [V.nilSl] at e, fun es' he i hi => ⟨ad, rfl, ?_⟩⟩
    have he : es = es' := he
    subst he
    have hne : rows ≠ [] := by rintro rfl; simp at hi
    obtain ⟨q1, q2, q3⟩ := hb hne
    have hi' : rows[i]? = some (rows.getD i []) := get_of_getD hi
    have : ad.add (i * es) = ⟨ad.block, ad.off + i * es + 0, none⟩ := by
      rw [show ad = ⟨ad.block, ad.off, none⟩ from by rw [← q3], addr_add]; rfl
    rw [this]
    exact .ref (g i) q1 q2 (fun k x hx => hg i _ hi' k x hx) fun k x hx => hr i _ hi' k x hx
  | a =>
    have ho' : v = .slice none 0 0 ∨ ∃ ad c, v = .slice (some ad) 0 c := by
      cases v with
      | slice b n c =>
        cases b with
        | none =>
          cases n with
          | zero => cases c with
            | zero => exact .inl rfl
            | succ c => exact ho.elim
          | succ n => exact ho.elim
        | some ad =>
          cases n with
          | zero => exact .inr ⟨ad, c, rfl⟩
          | succ n => exact ho.elim
      | _ => exact ho.elim
    rcases ho' with rfl | ⟨ad, c, rfl⟩
    · exact ⟨none, 0, 0, rfl, rfl, Nat.le_refl _, fun e => ⟨rfl, rfl⟩, fun es _ i hi => by omega⟩
    · exact ⟨some ad, 0, c, rfl, rfl, Nat.zero_le _, fun e => by simp [V.nilSl] at e, fun es _ i hi => by omega⟩
  | any => exact ho.elim
  | ptr => exact ho.elim
  | ref => exact ho.elim
  | agg => exact ho.elim
  | tup => exact ho.elim
  | fn => exact ho.elim
  | mp => exact ho.elim
  | mview => exact ho.elim
  | ifc => exact ho.elim
  | nul => exact ⟨_, 0, 0, rfl, rfl, Nat.le_refl _, fun e => by simp [V.nilSl] at e, fun es _ i hi => by omega⟩

/-- An address, moved on within its row. -/
theorem RV.plus {v : Value} {x : V} (hk : HOK w.heap H β F) (hr : RV (cx w.heap H β F) v x) (ho : okAt H x) (n : Nat) :
    ∃ b o, v = .pointer (some ⟨b, o, none⟩) ∧ RV (cx w.heap H β F) (.pointer (some ⟨b, o + n, none⟩)) (x.plus n) := by
  cases hr with
  | ptr hl h =>
    rename_i id tot i j
    obtain ⟨h1, h2, h3⟩ := ho
    obtain ⟨fz, refs, rows, hid, hrw⟩ := mem_get h1
    rw [hrw] at h2
    have e1 : (cx w.heap H β F).hd id = some ((β id).wt rows.length) := by show hdOf H β id = _; simp [hdOf, hid]
    obtain ⟨g1, g2⟩ := h _ e1
    obtain ⟨g3, g4, g5⟩ := g2 h2
    refine ⟨_, _, g5, .ptr hl fun h0 e0 => ?_⟩
    rw [e1] at e0
    injection e0 with e0
    subst e0
    exact ⟨g1, fun _ => ⟨g3, g4, by rw [Nat.add_assoc]⟩⟩
  | ref g hb hs hg hr => exact ⟨_, _, rfl, by rw [Nat.add_assoc]; exact .ref g hb hs hg hr⟩
  | any => exact ho.elim
  | a => exact ho.elim
  | own => exact ho.elim
  | nilv => exact ho.elim
  | view => exact ho.elim
  | agg => exact ho.elim
  | tup => exact ho.elim
  | fn => exact ho.elim
  | mp => exact ho.elim
  | mview => exact ho.elim
  | ifc => exact ho.elim
  | nul => exact ho.elim

theorem RV.of_agg {c : Cx} {v : Value} {cs : List V} (h : RV c v (.agg cs)) : ∃ vs : Array Value, v = .agg vs ∧ vs.size = cs.length ∧ (∀ (i : Nat) (u : Value) (y : V), vs[i]? = some u → cs[i]? = some y → RV c u y) ∧
    ∀ (i : Nat) (v : Value), vs[i]? = some v → v.oneCell' = true := by
  cases h with
  | agg hl ho h => exact ⟨_, rfl, hl, h, ho⟩

theorem RV.of_tup {c : Cx} {v : Value} {cs : List V} (h : RV c v (.tup cs)) : ∃ vs : Array Value, v = .tuple vs ∧ vs.size = cs.length ∧ ∀ (i : Nat) (u : Value) (y : V), vs[i]? = some u → cs[i]? = some y → RV c u y := by
  cases h with
  | tup hl h => exact ⟨_, rfl, hl, h⟩

/-- A part of a struct's cells. -/
theorem run_part' {P : Program} {t : TypeId} {i : TypeInfo} {agg : Bool} {vs : Array Value} {cs : List V} {off : Nat} {c : Cx} (hi : P.info? t = some i) (ha : isAggP P t = some agg)
    (hl : vs.size = cs.length) (h : ∀ (i : Nat) (u : Value) (y : V), vs[i]? = some u → cs[i]? = some y → RV c u y) (hone : ∀ (i : Nat) (v : Value), vs[i]? = some v → v.oneCell' = true) (hp : off + (if agg then i.size else 1) ≤ cs.length) :
    ∃ u, (part t vs off).run P w = .ok u w ∧ RV c u (if agg then .agg ((cs.drop off).take i.size) else cs.getD off .any) := by
  unfold part
  simp only [Sem.run_bind, run_isAgg ha, Result.andThen_ok]
  cases agg with
  | true =>
    simp only [if_true] at hp ⊢
    refine ⟨_, by simp [run_sizeOf' hi]; rfl, .agg ?_ (fun k u hk => ?_) fun k u y hk hy => ?_⟩
    · simp; omega
    · rw [Array.getElem?_extract] at hk
      split at hk
      · exact hone _ u hk
      · cases hk
    · rw [Array.getElem?_extract] at hk
      rw [List.getElem?_take] at hy
      split at hk
      · split at hy
        · rw [List.getElem?_drop] at hy
          exact h _ u y hk hy
        · cases hy
      · cases hk
  | false =>
    simp only [Bool.false_eq_true, if_false] at hp ⊢
    have h1 : vs[off]? = some vs[off] := Array.getElem?_eq_getElem (by omega)
    refine ⟨vs[off], by simp [h1], h off _ _ h1 (get_of_getD (by omega))⟩

theorem run_equalIn_bool {P : Program} {t : TypeId} {x y : Bool} (d : Nat) (hu : P.underlying t = some .bool) :
    (Op.equalIn (d + 1) t (.bool x) (.bool y)).run P w = .ok (x == y) w := by
  simp only [Op.equalIn, Sem.run_bind, run_underlying' hu, Result.andThen_ok, Sem.run_pure]

theorem run_equalIn_nil {P : Program} {t e : TypeId} {b : Option Addr} {n c n' c' : Nat} (d : Nat) (hu : P.underlying t = some (.slice e)) :
    (Op.equalIn (d + 1) t (.slice b n c) (.slice none n' c')).run P w = .ok b.isNone w := by
  cases b <;> simp [Op.equalIn, run_underlying' hu]

theorem run_binOp_boolEq {P : Program} {t : TypeId} {x y : Bool} (neg : Bool) (hu : P.underlying t = some .bool) :
    (binOp (if neg then .neq else .eql) t (.bool x) (.bool y)).run P w = .ok (.bool ((x == y) ^^ neg)) w := by
  have h : (Op.equal t (.bool x) (.bool y)).run P w = .ok (x == y) w := by
    exact run_equalIn_bool 9999 hu
  cases neg
  · show (do pure (Value.bool (← Op.equal t (.bool x) (.bool y))) : Sem Value).run P w = _
    simp [h]
  · show (do pure (Value.bool (!(← Op.equal t (.bool x) (.bool y)))) : Sem Value).run P w = _
    simp [h]

theorem run_binOp_nil {P : Program} {t e : TypeId} {b b' : Option Addr} {n c n' c' : Nat} (neg : Bool) (hu : P.underlying t = some (.slice e)) (hb' : b' = none) :
    (binOp (if neg then .neq else .eql) t (.slice b n c) (.slice b' n' c')).run P w = .ok (.bool (b.isNone ^^ neg)) w := by
  subst hb'
  have h : (Op.equal t (.slice b n c) (.slice none n' c')).run P w = .ok b.isNone w := by
    exact run_equalIn_nil 9999 hu
  cases neg
  · show (do pure (Value.bool (← Op.equal t (.slice b n c) (.slice none n' c'))) : Sem Value).run P w = _
    simp [h]
  · show (do pure (Value.bool (!(← Op.equal t (.slice b n c) (.slice none n' c')))) : Sem Value).run P w = _
    simp [h]

theorem RV.one {v : Value} {x : V} (hk : HOK w.heap H β F) (hr : RV (cx w.heap H β F) v x) (ho : x.one H) : v.oneCell' = true := by
  cases hr with
  | a => exact ho
  | ptr hl h =>
    rename_i id tot i j
    have ho' : (H.getD id .dead).hasTot tot := ho
    cases hid : H[id]? with
    | none => rw [List.getD_eq_getElem?_getD, hid] at ho'; exact ho'.elim
    | some o =>
      rw [getD_some hid] at ho'
      cases o with
      | mem fz refs rows =>
        obtain ⟨_, g2⟩ := h ((β id).wt rows.length) (by show hdOf H β id = _; simp [hdOf, hid])
        rw [(g2 ho').2.2]; rfl
      | tree refs rows =>
        obtain ⟨_, g2⟩ := h ((β id).wt rows.length) (by show hdOf H β id = _; simp [hdOf, hid])
        rw [(g2 ho').2.2]; rfl
      | _ => exact ho'.elim
  | own hl h =>
    rename_i id es off len tot
    obtain ⟨h1, h2⟩ := ho
    obtain ⟨fz, refs, rows, hid, hrw⟩ := mem_get h1
    rw [hrw] at h2
    obtain ⟨_, g2⟩ := h ((β id).wt rows.length) (by show hdOf H β id = _; simp [hdOf, hid])
    obtain ⟨_, _, g⟩ := g2 h2
    rcases g with ⟨_, ⟨ad, rfl⟩, _⟩ | ⟨_, ad, rfl, _⟩ <;> rfl
  | mp hl h =>
    rename_i id
    have h1 : (H.getD id .dead).isMap = true := ho
    cases hid : H[id]? with
    | none => simp [List.getD, hid, O.isMap] at h1
    | some o =>
      rw [getD_some hid] at h1
      cases o with
      | map fz refs es => rw [h ((β id).wt 0) (by show hdOf H β id = _; simp [hdOf, hid]) rfl]; rfl
      | _ => simp [O.isMap] at h1
  | any => exact ho.elim
  | agg => exact ho.elim
  | tup => exact ho.elim
  | ref => rfl
  | nilv => rfl
  | view => rfl
  | fn => rfl
  | mview => rfl
  | ifc => rfl
  | nul => rfl

theorem cells_one {v : Value} (h : v.oneCell' = true) : v.cells = #[v] := by
  cases v <;> first | rfl | simp [Value.oneCell'] at h

/-- A value's cells. -/
theorem RV.sized {v : Value} {x : V} {n : Nat} (hk : HOK w.heap H β F) (hr : RV (cx w.heap H β F) v x) (ho : x.sized H n) :
    v.cells.size = n ∧ x.cells.length = n ∧ (∀ (i : Nat) (u : Value) (y : V), v.cells[i]? = some u → x.cells[i]? = some y → RV (cx w.heap H β F) u y) ∧
      ∀ (i : Nat) (u : Value), v.cells[i]? = some u → u.oneCell' = true := by
  by_cases hagg : ∃ cs, x = .agg cs
  · obtain ⟨cs, rfl⟩ := hagg
    obtain ⟨vs, rfl, h1, h2, h3⟩ := hr.of_agg
    have ho : cs.length = n := ho
    exact ⟨h1.trans ho, ho, h2, h3⟩
  · have h1 : x.one H ∧ n = 1 := by
      cases x <;> first | exact ho | exact (hagg ⟨_, rfl⟩).elim
    have h2 : x.cells = [x] := by
      cases x <;> first | rfl | exact (hagg ⟨_, rfl⟩).elim
    have h3 := hr.one hk h1.1
    rw [cells_one h3, h2, h1.2]
    refine ⟨rfl, rfl, fun i u y hu hy => ?_, fun i u hu => ?_⟩
    · cases i with
      | zero => simp at hu hy; subst hu hy; exact hr
      | succ i => simp at hu
    · cases i with
      | zero => simp at hu; subst hu; exact h3
      | succ i => simp at hu

theorem foldl_setIf {α : Type} (l : List α) : ∀ (cs : Array α) (off k : Nat), k + l.length ≤ cs.size - off → off ≤ cs.size →
    (((l.zipIdx k).foldl (fun cs (p : α × Nat) => cs.setIfInBounds (off + p.2) p.1) cs).toList) = cs.toList.take (off + k) ++ l ++ cs.toList.drop (off + k + l.length) := by
  induction l with
  | nil => intro cs off k h _; simp
  | cons x l ih =>
    intro cs off k h ho
    simp only [List.zipIdx_cons, List.foldl_cons, List.length_cons] at h ⊢
    rw [ih _ off (k + 1) (by simp; omega) (by simp; omega)]
    simp only [Array.toList_setIfInBounds]
    have hlen : off + k < cs.toList.length := by simp; omega
    rw [List.take_set, show off + (k + 1) = (off + k) + 1 from by omega, List.take_add_one, List.drop_set]
    rw [if_pos (by omega)]
    have e : cs.toList[off + k]?.toList = [cs.toList[off + k]] := by rw [List.getElem?_eq_getElem hlen]; rfl
    rw [e, List.set_append]
    rw [if_neg (by simp; omega)]
    simp only [List.length_take]
    rw [show off + k - min (off + k) cs.toList.length = 0 from by omega]
    simp only [List.set_cons_zero, List.append_assoc, List.cons_append, List.nil_append]
    rw [show off + k + 1 + l.length = off + k + (l.length + 1) from by omega]

end
end Go.Abs

/- Operations that leave memory alone: the machine does so (2). -/
namespace Go.Abs
set_option linter.unusedVariables false

section
variable {P : Program} {w : World} {β : Nat → Hd} {F : Nat → Prop} {N : Nat} {st : St} {a : Act}

theorem RV.of_int {c : Cx} {v : Value} {x : V} (h : RV c v x) (hi : x.isInt = true) : v = .int x.kindOf x.num := by
  rw [x.eq_int hi] at h; exact h.of_a
theorem RV.of_bool {c : Cx} {v : Value} {x : V} (h : RV c v x) (hi : x.isBool = true) : v = .bool x.tru := by
  rw [x.eq_bool hi] at h; exact h.of_a
theorem RV.of_str {c : Cx} {v : Value} {x : V} (h : RV c v x) (hi : x.isStr = true) : v = .string x.txt := by
  rw [x.eq_str hi] at h; exact h.of_a

theorem RV.of_okAt {v : Value} {x : V} (hk : HOK w.heap st.hp β F) (hr : RV (cx w.heap st.hp β F) v x) (ho : okAt st.hp x) : ∃ b o, v = .pointer (some ⟨b, o, none⟩) := by
  obtain ⟨b, o, h, _⟩ := hr.cells hk ho
  exact ⟨b, o, h⟩

theorem binP_cases {op : BinOp} {x y : V} (h : binP op x y) :
    (∃ k k' m n, x = .a (.int k m) ∧ y = .a (.int k' n) ∧ binIP op k k' n) ∨ (∃ s t, x = .a (.string s) ∧ y = .a (.string t) ∧ binSP op s t) := by
  unfold binP at h
  split at h
  · exact .inl ⟨_, _, _, _, rfl, rfl, h⟩
  · exact .inr ⟨_, _, rfl, rfl, h⟩
  · exact h.elim

theorem sound_bin (hR : Rel w β F N st a) {op : BinOp} {t t' : TypeId} {x y : Operand} (hp : binP op (st.ev x) (st.ev y)) :
    ∃ v, (do eqGuard op t x y (a.eval x) (a.eval y); binOp op t (a.eval x) (a.eval y) : Sem Value).run P w = .ok v w ∧ RV (cx w.heap st.hp β F) v (binV op (st.ev x) (st.ev y)) := by
  have hx := hR.ev x
  have hy := hR.ev y
  rcases binP_cases hp with ⟨k, k', m, n, e1, e2, h⟩ | ⟨s, u, e1, e2, h⟩
  · rw [e1] at hx; rw [e2] at hy
    rw [hx.of_a, hy.of_a, e1, e2]
    exact ⟨_, by simp only [Sem.run_bind, eqGuard_int, Result.andThen_ok, run_binOp_int h], .a⟩
  · rw [e1] at hx; rw [e2] at hy
    rw [hx.of_a, hy.of_a, e1, e2]
    exact ⟨_, by simp only [Sem.run_bind, eqGuard_str, Result.andThen_ok, run_binOp_str h], .a⟩

theorem eqGuard_bool {op : BinOp} {t : TypeId} {x y : Operand} {p q : Bool} : (eqGuard op t x y (.bool p) (.bool q)).run P w = .ok () w := by
  unfold eqGuard; split <;> simp
theorem eqGuard_slice {op : BinOp} {t : TypeId} {x y : Operand} {p q : Option Addr} {n c n' c' : Nat} : (eqGuard op t x y (.slice p n c) (.slice q n' c')).run P w = .ok () w := by
  unfold eqGuard; split <;> simp

theorem run_max2 {mx : Bool} {k k' : IntKind} {x y : Int} : ((if mx then Builtin.max2 else Builtin.min2) (.int k x) (.int k' y)).run P w = .ok (.int k (mxI mx x y)) w := by
  cases mx <;> simp [Builtin.max2, Builtin.min2, mxI]

theorem run_foldMax {mx : Bool} (ys : List Operand) (hR : Rel w β F N st a) : ∀ (k : IntKind) (n : Int), (∀ y ∈ ys, (st.ev y).isInt = true) →
    ((ys.map a.eval).foldlM (if mx then Builtin.max2 else Builtin.min2) (.int k n)).run P w = .ok (.int k (ys.foldl (fun n y => mxI mx n (st.ev y).num) n)) w := by
  induction ys with
  | nil => intro k n _; simp
  | cons y ys ih =>
    intro k n h
    simp only [List.map_cons, List.foldlM_cons, Sem.run_bind, List.foldl_cons]
    rw [(hR.ev y).of_int (h y (by simp)), run_max2]
    simp only [Result.andThen_ok]
    exact ih _ _ fun z hz => h z (by simp [hz])

/-- Bounds of a slice expression. -/
theorem run_bound (hR : Rel w β F N st a) {x : Operand} {y : Nat} {code : BoundsCode} (hi : (st.ev x).isInt = true) (h0 : 0 ≤ (st.ev x).num) (h1 : (st.ev x).num ≤ y) :
    (Instr.sliceBound (a.eval x) y code).run P w = .ok (st.ev x).num.toNat w := by
  rw [(hR.ev x).of_int hi]
  simp [Instr.sliceBound, asIntOf, h0, h1]

theorem run_sliceBounds (hR : Rel w β F N st a) {sl : Bool} {len cap : Nat} {lo hi : Option Operand} (hlc : len ≤ cap) (p1 : optP st lo) (p2 : optP st hi)
    (h0 : 0 ≤ optN st 0 lo) (h1 : optN st 0 lo ≤ optN st len hi) (h2 : optN st len hi ≤ len) :
    (Instr.sliceBounds sl len cap (lo.map a.eval) (hi.map a.eval) none).run P w = .ok ((optN st 0 lo).toNat, (optN st len hi).toNat, cap) w := by
  unfold Instr.sliceBounds
  cases hi with
  | none =>
    cases lo with
    | none => simp [optN]
    | some l =>
      simp only [optN, optP] at *
      simp only [Option.map, Sem.run_bind, Sem.run_pure, Result.andThen_ok]
      rw [run_bound hR p1 h0 (by omega)]
      simp
  | some h =>
    have h0' := h0
    simp only [optN, optP] at h1 h2 p2
    unfold optN at h0'
    have hb : (Instr.sliceBound (a.eval h) cap (if sl = true then .sliceAcap else .sliceAlen)).run P w = .ok (st.ev h).num.toNat w := run_bound hR p2 (by omega) (by omega)
    simp only [Option.map, Sem.run_bind, Sem.run_pure, Result.andThen_ok]
    rw [hb]
    cases lo with
    | none => simp [optN]
    | some l =>
      simp only [optN, optP] at h0 h1 p1
      simp only [Result.andThen_ok, Sem.run_bind, Sem.run_pure, Option.isSome_none, Bool.false_eq_true, if_false]
      rw [run_bound hR p1 h0 (by omega)]
      simp [optN]

/-- What is never written again, a part of it from its beginning with less room. -/
theorem RV.view3 {c : Cx} {v : Value} {es hi mx : Nat} {rows : List (List V)} (hr : RV c v (.view es rows)) (h1 : hi ≤ mx) (h2 : mx ≤ rows.length) :
    ∃ base len cap, v = .slice base len cap ∧ mx ≤ cap ∧ RV c (.slice (if mx = 0 then base else base.map (·.add (0 * es))) hi mx) (.view es (rows.take hi)) := by
  cases hr with
  | nilv =>
    have : mx = 0 := by simpa using h2
    subst this
    have : hi = 0 := by omega
    subst this
    exact ⟨none, 0, 0, rfl, Nat.le_refl _, by simpa using RV.nilv⟩
  | @view _ _ _ ad cap g hb hcap hlen hg hr =>
    refine ⟨some ad, rows.length, cap, rfl, by omega, ?_⟩
    have e : (if mx = 0 then some ad else (some ad).map (·.add (0 * es))) = some ad := by
      split
      · rfl
      · simp [Addr.add]
    rw [e]
    have hl : hi = (rows.take hi).length := by rw [List.length_take]; omega
    have row : ∀ (i : Nat) (row : List V), (rows.take hi)[i]? = some row → rows[i]? = some row := fun i row h => by
      rw [List.getElem?_take] at h
      split at h
      · exact h
      · cases h
    have := RV.view (c := c) (es := es) (rows := rows.take hi) (ad := ad) (cap := mx) g (fun hne => hb (fun e => hne (by rw [e]; simp))) (by rw [← hl]; exact h1) (fun i r h => hlen i r (row i r h)) (fun i r h => hg i r (row i r h)) (fun i r h => hr i r (row i r h))
    rw [← hl] at this
    exact this

/-- A slice of a slice. -/
theorem RV.cut {v : Value} {x : V} (hk : HOK w.heap st.hp β F) (hr : RV (cx w.heap st.hp β F) v x) (ho : okSl st.hp x) {es lo hi : Nat} (he : x.slEs es) (h1 : lo ≤ hi) (h2 : (hi : Int) ≤ x.slLen) :
    ∃ base len cap, v = .slice base len cap ∧ (len : Int) = x.slLen ∧ len ≤ cap ∧
      RV (cx w.heap st.hp β F) (.slice (if cap = lo then base else base.map (·.add (lo * es))) (hi - lo) (cap - lo)) (x.cut lo hi) := by
  obtain ⟨base0, len0, cap0, e0, hl0, hc0, -, -⟩ := hr.sl hk ho
  refine ⟨base0, len0, cap0, e0, hl0, hc0, ?_⟩
  subst e0
  cases hr with
  | own hl h =>
    rename_i id es' off len1 tot
    have he : es' = es := he
    subst he
    obtain ⟨q1, q2⟩ := ho
    obtain ⟨fz, refs, rows, hid, hrw⟩ := mem_get q1
    rw [hrw] at q2
    have e1 : (cx w.heap st.hp β F).hd id = some ((β id).wt rows.length) := by show hdOf st.hp β id = _; simp [hdOf, hid]
    obtain ⟨g1, g2⟩ := h _ e1
    obtain ⟨g3, g4, g5⟩ := g2 q2
    refine .own hl fun h0 e => ?_
    rw [e1] at e; injection e with e; subst e
    have g3' : (β id).lo ≤ off := g3
    refine ⟨g1, fun _ => ⟨by show (β id).lo ≤ off + lo; omega, g4, ?_⟩⟩
    have g4' : (β id).es = es' := g4
    simp only [V.slLen] at h2 hl0
    rcases g5 with ⟨g6, ⟨ad, g7⟩, g8⟩ | ⟨g6, ad, g7, g8, g9⟩
    · injection g7 with a1 a2 a3
      subst a1 a2 a3
      have : lo = 0 ∧ hi = 0 := by omega
      obtain ⟨rfl, rfl⟩ := this
      exact .inl ⟨g6, ⟨base0, by simp⟩, rfl⟩
    · injection g7 with a1 a2 a3
      subst a1
      have a3' : cap0 = (β id).cap - (off - (β id).lo) := a3
      refine .inr ⟨g6, if cap0 = lo then ad else ad.add (lo * es'), ?_, ?_, ?_⟩
      · show Value.slice _ _ _ = Value.slice _ _ ((β id).cap - (off + lo - (β id).lo))
        have : cap0 - lo = (β id).cap - (off + lo - (β id).lo) := by omega
        rw [this]
        congr 1
        split <;> rfl
      · show off + lo + (hi - lo) ≤ rows.length
        have : off + len1 ≤ rows.length := g8
        omega
      · intro hlt
        have hlt' : off + lo - (β id).lo < (β id).cap := hlt
        rw [if_neg (by omega)]
        have g9' : ad = ⟨(β id).b, (β id).o + (off - (β id).lo) * (β id).es, none⟩ := g9 (by show off - (β id).lo < (β id).cap; omega)
        rw [g9', addr_add]
        show (⟨_, _, none⟩ : Addr) = ⟨(β id).b, (β id).o + (off + lo - (β id).lo) * (β id).es, none⟩
        rw [g4', show off + lo - (β id).lo = (off - (β id).lo) + lo from by omega, Nat.add_mul, Nat.add_assoc]
  | nilv =>
    simp only [V.slLen, List.length_nil] at h2 hl0
    have : lo = 0 ∧ hi = 0 := by omega
    obtain ⟨rfl, rfl⟩ := this
    simp only [V.cut, List.drop_nil, List.take_nil]
    exact .nilv
  | view g hb hcap hlen hg hr =>
    rename_i es' rows ad
    have he : es' = es := he
    subst he
    simp only [V.slLen] at h2
    have hlen' : ((rows.drop lo).take (hi - lo)).length = hi - lo := by simp; omega
    have hget : ∀ (i : Nat) (row : List V), ((rows.drop lo).take (hi - lo))[i]? = some row → rows[lo + i]? = some row := by
      intro i row h
      rw [List.getElem?_take] at h
      split at h
      · rw [List.getElem?_drop] at h; exact h
      · cases h
    have : (if cap0 = lo then some ad else (some ad).map (·.add (lo * es'))) = some (if cap0 = lo then ad else ad.add (lo * es')) := by split <;> rfl
    rw [this]
    simp only [V.cut]
    have hne : ∀ {i : Nat} {row : List V}, ((rows.drop lo).take (hi - lo))[i]? = some row → rows ≠ [] ∧ cap0 ≠ lo := by
      intro i row h
      have := lt_of_get h
      rw [hlen'] at this
      refine ⟨by rintro rfl; simp at h2; omega, by omega⟩
    have hkey : ∀ (i : Nat) (row : List V), ((rows.drop lo).take (hi - lo))[i]? = some row → (if cap0 = lo then ad else ad.add (lo * es')) = ⟨ad.block, ad.off + lo * es', none⟩ := by
      intro i row h
      obtain ⟨n1, n2⟩ := hne h
      rw [if_neg n2]
      obtain ⟨_, _, q3⟩ := hb n1
      rw [show ad = ⟨ad.block, ad.off, none⟩ from by rw [← q3], addr_add]
    have := RV.view (c := cx w.heap st.hp β F) (es := es') (rows := (rows.drop lo).take (hi - lo)) (ad := if cap0 = lo then ad else ad.add (lo * es')) (cap := cap0 - lo) (fun i j => g (lo + i) j)
      (fun hn => ?_) (by rw [hlen']; omega) (fun i row h => hlen _ _ (hget i row h)) (fun i row h j x hj => ?_) (fun i row h j x hj => hr _ _ (hget i row h) j x hj)
    · rw [hlen'] at this; exact this
    · obtain ⟨i, row, h⟩ : ∃ i row, ((rows.drop lo).take (hi - lo))[i]? = some row := by
        cases hh : (rows.drop lo).take (hi - lo) with
        | nil => exact absurd hh hn
        | cons r l => exact ⟨0, r, rfl⟩
      rw [hkey i row h]
      obtain ⟨q1, q2, _⟩ := hb (hne h).1
      exact ⟨q1, q2, rfl⟩
    · rw [hkey i row h]
      show look _ ad.block (ad.off + lo * es' + i * es' + j) = _ ∧ _
      rw [show ad.off + lo * es' + i * es' + j = ad.off + (lo + i) * es' + j from by rw [Nat.add_mul]; omega]
      exact hg _ _ (hget i row h) j x hj
  | a =>
    simp only [V.slLen] at h2 hl0
    have : lo = 0 ∧ hi = 0 := by omega
    obtain ⟨rfl, rfl⟩ := this
    have : len0 = 0 := by omega
    subst this
    have e : (if cap0 = 0 then base0 else base0.map (·.add (0 * es))) = base0 := by
      cases base0 <;> simp [Addr.add]
    simp only [Nat.sub_zero, V.cut]
    rw [e]
    exact .a
  | nul =>
    simp only [V.slLen] at h2 hl0
    have : lo = 0 ∧ hi = 0 := by omega
    obtain ⟨rfl, rfl⟩ := this
    simp only [V.cut]
    exact .nul
  | any => exact ho.elim
  | ptr => exact ho.elim
  | mp => exact ho.elim

end
end Go.Abs

/- Operations that leave memory alone: the machine does so (3). -/
namespace Go.Abs
set_option linter.unusedVariables false

section
variable {P : Program} {w : World} {β : Nat → Hd} {F : Nat → Prop} {N : Nat} {st : St} {a : Act}

theorem range_lt (s : ByteArray) {i : Nat} (h : i < s.size) : s[i]? = some (s.data.toList.getD i 0) := by
  have h' : i < s.data.toList.length := by simpa using h
  have : s[i]? = some s[i] := getElem?_pos s i h
  rw [this]
  congr 1
  show s.data[i] = _
  rw [List.getD, List.getElem?_eq_getElem h']
  simp

/-- Laying parts over cells. -/
theorem run_fill {c : Cx} (place : Nat → Option (Nat × Nat)) : ∀ (l : List (Nat × Value)) (ps : List (Nat × Nat × V)) (cs : Array Value) (xs : List V),
    cs.size = xs.length → (∀ (i : Nat) (u : Value) (y : V), cs[i]? = some u → xs[i]? = some y → RV c u y) →
    l.length = ps.length →
    (∀ (i : Nat) (q : Nat × Value) (p : Nat × Nat × V), l[i]? = some q → ps[i]? = some p → place q.1 = some (p.1, p.2.1) ∧ q.2.cells.size = p.2.1 ∧ p.2.2.cells.length = p.2.1 ∧ p.1 + p.2.1 ≤ xs.length ∧
      (∀ (j : Nat) (u : Value) (y : V), q.2.cells[j]? = some u → p.2.2.cells[j]? = some y → RV c u y) ∧ ∀ (j : Nat) (u : Value), q.2.cells[j]? = some u → u.oneCell' = true) →
    (∀ (i : Nat) (u : Value), cs[i]? = some u → u.oneCell' = true) →
    ∃ vs, Instr.fill place cs l = some vs ∧ vs.size = (fillV xs ps).length ∧ (∀ (i : Nat) (u : Value) (y : V), vs[i]? = some u → (fillV xs ps)[i]? = some y → RV c u y) ∧ ∀ (i : Nat) (u : Value), vs[i]? = some u → u.oneCell' = true := by
  intro l
  induction l with
  | nil =>
    intro ps cs xs h1 h2 h3 h4 h5
    cases ps with
    | nil => exact ⟨cs, rfl, h1, h2, h5⟩
    | cons p ps => simp at h3
  | cons q l ih =>
    intro ps cs xs h1 h2 h3 h4 h5
    cases ps with
    | nil => simp at h3
    | cons p ps =>
      obtain ⟨g1, g2, g3, g4, g5, g6⟩ := h4 0 q p rfl rfl
      obtain ⟨i, v⟩ := q
      obtain ⟨off, n, x⟩ := p
      simp only at g1 g2 g3 g4 g5 g6
      simp only [Instr.fill, g1, fillV]
      rw [if_neg (by simp; omega)]
      have hfold : (v.cells.zipIdx.foldl (fun cs (p : Value × Nat) => cs.setIfInBounds (off + p.2) p.1) cs).toList = cs.toList.take off ++ v.cells.toList ++ cs.toList.drop (off + v.cells.size) := by
        have := foldl_setIf v.cells.toList cs off 0 (by simp; omega) (by omega)
        simp only [Nat.add_zero, Array.length_toList] at this
        rw [← Array.foldl_toList, Array.toList_zipIdx]
        exact this
      generalize hcs' : v.cells.zipIdx.foldl (fun cs (p : Value × Nat) => cs.setIfInBounds (off + p.2) p.1) cs = cs' at *
      have hsz : cs'.size = cs.size := by
        rw [← Array.length_toList, hfold]; simp; omega
      refine ih ps cs' (xs.take off ++ x.cells ++ xs.drop (off + x.cells.length)) ?_ ?_ (by simpa using h3) ?_ ?_
      · rw [hsz]; simp; omega
      · intro k u y hu hy
        have hu' : cs'.toList[k]? = some u := by simpa using hu
        rw [hfold] at hu'
        rw [List.append_assoc, List.getElem?_append] at hu' hy
        simp only [List.length_take, Array.length_toList] at hu' hy
        rw [show min off cs.size = off from by omega] at hu'
        rw [show min off xs.length = off from by omega] at hy
        by_cases hk : k < off
        · rw [if_pos hk, List.getElem?_take, if_pos hk] at hu' hy
          exact h2 k u y (by simpa using hu') hy
        · rw [if_neg hk, List.getElem?_append] at hu' hy
          simp only [Array.length_toList] at hu'
          rw [g2] at hu'
          rw [g3] at hy
          by_cases hk2 : k - off < n
          · rw [if_pos hk2] at hu' hy
            exact g5 (k - off) u y (by simpa using hu') hy
          · rw [if_neg hk2, List.getElem?_drop] at hu' hy
            exact h2 _ u y (by simpa using hu') hy
      · intro k q p hq hp
        obtain ⟨a1, a2, a3, a4, a5⟩ := h4 (k + 1) q p hq hp
        exact ⟨a1, a2, a3, by simp; omega, a5⟩
      · intro k u hu
        have hu' : cs'.toList[k]? = some u := by simpa using hu
        rw [hfold] at hu'
        have hm := List.mem_of_getElem? hu'
        simp only [List.mem_append] at hm
        rcases hm with (hm | hm) | hm
        · obtain ⟨i, hi⟩ := List.getElem?_of_mem (List.mem_of_mem_take hm)
          exact h5 i u (by simpa using hi)
        · obtain ⟨i, hi⟩ := List.getElem?_of_mem hm
          exact g6 i u (by simpa using hi)
        · obtain ⟨i, hi⟩ := List.getElem?_of_mem (List.mem_of_mem_drop hm)
          exact h5 i u (by simpa using hi)

theorem mapM_some {α β : Type} {f : α → Option β} : ∀ {l : List α} {r : List β}, l.mapM f = some r → r.length = l.length ∧ ∀ (i : Nat) (x : α), l[i]? = some x → ∃ y, r[i]? = some y ∧ f x = some y := by
  intro l
  induction l with
  | nil => intro r h; simp at h; subst h; exact ⟨rfl, fun i x h => by simp at h⟩
  | cons x l ih =>
    intro r h
    simp only [List.mapM_cons, Option.bind_eq_bind, Option.bind_eq_some_iff, Option.pure_def, Option.some.injEq] at h
    obtain ⟨y, hy, r', hr', rfl⟩ := h
    obtain ⟨h1, h2⟩ := ih hr'
    refine ⟨by simp [h1], fun i z hz => ?_⟩
    cases i with
    | zero => simp at hz; subst hz; exact ⟨y, rfl, hy⟩
    | succ i => exact h2 i z hz

theorem run_mapM_places {fs : Array Field} (h : ∀ (i : Nat) (f : Field), fs[i]? = some f → ∃ inf, P.info? f.type = some inf) :
    ∃ pl : Array (Nat × Nat), (fs.mapM fun f => (do pure (f.offset, ← sizeOf f.type) : Sem (Nat × Nat))).run P w = .ok pl w ∧
      ∀ (i : Nat) (f : Field) (inf : TypeInfo), fs[i]? = some f → P.info? f.type = some inf → pl[i]? = some (f.offset, inf.size) := by
  rw [Array.mapM_eq_mapM_toList]
  have key : ∀ (l : List Field), (∀ f ∈ l, ∃ inf, P.info? f.type = some inf) → ∃ pl : List (Nat × Nat), (l.mapM fun f => (do pure (f.offset, ← sizeOf f.type) : Sem (Nat × Nat))).run P w = .ok pl w ∧
      ∀ (i : Nat) (f : Field) (inf : TypeInfo), l[i]? = some f → P.info? f.type = some inf → pl[i]? = some (f.offset, inf.size) := by
    intro l
    induction l with
    | nil => intro _; exact ⟨[], by simp, fun i f inf h => by simp at h⟩
    | cons f l ih =>
      intro hl
      obtain ⟨inf, hi⟩ := hl f (by simp)
      obtain ⟨pl, h1, h2⟩ := ih fun g hg => hl g (by simp [hg])
      refine ⟨(f.offset, inf.size) :: pl, by simp only [List.mapM_cons, Sem.run_bind, run_sizeOf' hi, Result.andThen_ok, Sem.run_pure, h1], fun i g inf' hg hi' => ?_⟩
      cases i with
      | zero => simp at hg; subst hg; rw [hi] at hi'; injection hi' with hi'; subst hi'; rfl
      | succ i => exact h2 i g inf' hg hi'
  obtain ⟨pl, h1, h2⟩ := key fs.toList fun f hf => by
    obtain ⟨i, hi⟩ := List.getElem?_of_mem hf
    exact h i f (by simpa using hi)
  refine ⟨pl.toArray, by simp only [Sem.run_map, h1, Result.andThen_ok], fun i f inf hf hi => ?_⟩
  simpa using h2 i f inf (by simpa using hf) hi

theorem zero_cells {c : Cx} {z : Value} : ∀ (i : Nat) (u : Value) (y : V), z.cells[i]? = some u → (z.cells.toList.map V.a)[i]? = some y → RV c u y := by
  intro i u y h1 h2
  simp only [List.getElem?_map, Array.getElem?_toList] at h2
  rw [h1] at h2
  simp at h2
  subst h2
  exact .a

end
end Go.Abs

/- Operations that leave memory alone: maps read, structs compared, bytes as text. -/
namespace Go.Abs
set_option linter.unusedVariables false

def putE : List (V × V) → V → V → List (V × V)
  | [], key, v => [(key, v)]
  | e :: l, key, v => if e.1.num == key.num then (e.1, v) :: l else e :: putE l key v

section
variable {P : Program} {w : World} {H : Heap} {β : Nat → Hd} {F : Nat → Prop}

theorem map_get {id : Nat} (h : (H.getD id .dead).isMap = true) : ∃ fz refs es, H[id]? = some (.map fz refs es) ∧ (H.getD id .dead).ents = es := by
  cases hid : H[id]? with
  | none => simp [List.getD, hid, O.isMap] at h
  | some o =>
    have hgd : H.getD id .dead = o := getD_some hid
    rw [hgd] at h ⊢
    cases o with
    | map fz refs rows => exact ⟨_, _, _, rfl, rfl⟩
    | _ => simp [O.isMap] at h

theorem RV.mapv {v : Value} {x : V} (hk : HOK w.heap H β F) (hr : RV (cx w.heap H β F) v x) (ho : okMp H x) :
    (v = .map none ∧ x.entsOf H = []) ∨ ∃ b ents clock, v = .map (some b) ∧ w.heap[b]? = some (.map ents clock) ∧ ents.size = (x.entsOf H).length ∧
      ∀ (i : Nat) (e : MapEntry) (y : V × V), ents[i]? = some e → (x.entsOf H)[i]? = some y → RV (cx w.heap H β F) e.key y.1 ∧ RV (cx w.heap H β F) e.val y.2 := by
  cases hr with
  | mp hl h =>
    rename_i id
    obtain ⟨fz, refs, es, hid, he⟩ := map_get (show (H.getD id .dead).isMap = true from ho)
    right
    obtain ⟨q1, ents, clock, q2, q3, q4, q5, q6⟩ := hk.ro id _ hid
    refine ⟨(β id).b, ents, clock, h ((β id).wt 0) (by show hdOf H β id = _; simp [hdOf, hid]) rfl, q2, ?_, fun i e y h1 h2 => ?_⟩
    · show ents.size = ((H.getD id .dead).ents).length
      rw [he]; exact q3
    · have h2 : ((H.getD id .dead).ents)[i]? = some y := h2
      rw [he] at h2
      exact ⟨(q6 i e y h1 h2).1.up, (q6 i e y h1 h2).2.up⟩
  | mview hb hm hl hkk hv => exact .inr ⟨_, _, _, rfl, hm, hl, fun i e y h1 h2 => ⟨(hkk i e y h1 h2).up, (hv i e y h1 h2).up⟩⟩
  | a =>
    left
    cases v with
    | map b =>
      cases b with
      | none => exact ⟨rfl, rfl⟩
      | some b => exact ho.elim
    | _ => exact ho.elim
  | _ => exact ho.elim

theorem RV.key {c : Cx} {v : Value} {x : V} {k : IntKind} (h : RV c v x) (hk : x.isKey k = true) : v = .int k x.num ∧ x = .a (.int k x.num) := by
  cases x with
  | a u =>
    have := h.of_a
    subst this
    cases v <;> simp [V.isKey] at hk
    subst hk
    exact ⟨rfl, rfl⟩
  | _ => simp [V.isKey] at hk

theorem findNow_ents {c : Cx} {k : IntKind} {n : Int} : ∀ (es : List MapEntry) (xs : List (V × V)) (i0 : Nat), es.length = xs.length →
    (∀ (i : Nat) (e : MapEntry) (y : V × V), es[i]? = some e → xs[i]? = some y → RV c e.key y.1 ∧ RV c e.val y.2) → (∀ y ∈ xs, y.1.isKey k = true) →
    (Instr.findNow (.int k) (.int k n) es i0 = some none ∧ getE xs n = none ∧ (∀ key v : V, key.num = n → putE xs key v = xs ++ [(key, v)])) ∨
    ∃ j e y, Instr.findNow (.int k) (.int k n) es i0 = some (some (i0 + j, e.val)) ∧ es[j]? = some e ∧ xs[j]? = some y ∧ e.key = .int k n ∧ getE xs n = some y.2 ∧ ∀ key v : V, key.num = n → putE xs key v = xs.set j (y.1, v) := by
  intro es
  induction es with
  | nil =>
    intro xs i0 hl _ _
    obtain rfl : xs = [] := List.eq_nil_of_length_eq_zero hl.symm
    exact .inl ⟨rfl, rfl, fun key v _ => rfl⟩
  | cons e es ih =>
    intro xs i0 hl h hk
    cases xs with
    | nil => simp at hl
    | cons y xs =>
      obtain ⟨h1, h2⟩ := h 0 e y rfl rfl
      have hky := hk y (by simp)
      obtain ⟨e1, e2⟩ := h1.key hky
      have hs : Instr.sameNow (.int k) (.int k n) e.key = some (n == y.1.num) := by rw [e1]; simp [Instr.sameNow]
      by_cases hn : y.1.num = n
      · right
        refine ⟨0, e, y, ?_, rfl, rfl, by rw [e1, hn], ?_, fun key v hkv => ?_⟩
        · unfold Instr.findNow
          rw [hs, hn]; simp
        · simp [getE, hn]
        · simp [putE, hn, hkv]
      · have hs' : Instr.findNow (.int k) (.int k n) (e :: es) i0 = Instr.findNow (.int k) (.int k n) es (i0 + 1) := by
          rw [Instr.findNow, hs, show (n == y.1.num) = false from by simp; omega]
        have hn' : (y.1.num == n) = false := by simpa using hn
        have hg : getE (y :: xs) n = getE xs n := by simp [getE, hn']
        rcases ih xs (i0 + 1) (by simpa using hl) (fun i e y a b => h (i + 1) e y (by simpa using a) (by simpa using b)) (fun z hz => hk z (by simp [hz])) with ⟨g1, g2, g3⟩ | ⟨j, e', y', g1, g2, g3, g4, g5, g6⟩
        · exact .inl ⟨hs'.trans g1, hg.trans g2, fun key v hkv => by simp [putE, hkv, hn', g3 key v hkv]⟩
        · refine .inr ⟨j + 1, e', y', ?_, by simpa using g2, by simpa using g3, g4, hg.trans g5, fun key v hkv => ?_⟩
          · rw [hs', g1, show i0 + 1 + j = i0 + (j + 1) from by omega]
          · simp [putE, hkv, hn', g6 key v hkv]

theorem run_checkKey_int {kt : TypeId} {k : IntKind} {v : Value} {e : Bool} {n : Nat} (h : P.underlying kt = some (.int k)) : (Instr.checkKey e (n + 1) kt v).run P w = .ok () w := by
  simp only [Instr.checkKey, Sem.run_bind, run_underlying' h, Result.andThen_ok]
  cases v <;> simp

theorem run_getMap {b : Nat} {ents : Array MapEntry} {clock : Nat} (h : w.heap[b]? = some (.map ents clock)) : (getObj b).run P w = .ok (.map ents clock) w := MapKept.run_getObj_map h

theorem run_findKey_int {c : Cx} {kt : TypeId} {k : IntKind} {n : Int} {ents : Array MapEntry} {r : Option (Nat × Value)} (hu : P.underlying kt = some (.int k)) (h : Instr.findNow (.int k) (.int k n) ents.toList 0 = some r) :
    (Instr.findKey kt (.int k n) ents.toList).run P w = .ok r w := by
  simp only [Instr.findKey, Sem.run_bind, run_underlying' hu, Result.andThen_ok, h, Sem.run_pure]

theorem run_lookup {mt kt et : TypeId} {k : IntKind} {inf : TypeInfo} {z v : Value} {zv x key : V} {kv : Value} {ok : Bool} (hk : HOK w.heap H β F) (hm : P.underlying mt = some (.map kt et)) (hkt : P.underlying kt = some (.int k))
    (hi : P.info? et = some inf) (hz : inf.zero = some z) (rz : RV (cx w.heap H β F) z zv) (hr : RV (cx w.heap H β F) v x) (ho : okMp H x) (hks : ∀ e ∈ x.entsOf H, e.1.isKey k = true) (hkr : RV (cx w.heap H β F) kv key) (hkk : key.isKey k = true) :
    ∃ r, (Instr.lookup mt v kv ok).run P w = .ok r w ∧ RV (cx w.heap H β F) r (match getE (x.entsOf H) key.num with
      | some v => if ok then .tup [v, .bool true] else v
      | none => if ok then .tup [zv, .bool false] else zv) := by
  obtain ⟨rfl, _⟩ := hkr.key hkk
  have pair : ∀ {u : Value} {y : V} {b : Bool}, RV (cx w.heap H β F) u y → RV (cx w.heap H β F) (if ok then .tuple #[u, .bool b] else u) (if ok then .tup [y, .bool b] else y) := by
    intro u y b h
    cases ok
    · exact h
    · refine .tup rfl fun i u' y' h1 h2 => ?_
      match i with
      | 0 => simp at h1 h2; subst h1; subst h2; exact h
      | 1 => simp at h1 h2; subst h1; subst h2; exact .a
      | i + 2 => simp at h1
  rcases hr.mapv hk ho with ⟨rfl, he⟩ | ⟨b, ents, clock, rfl, hb, hl, hes⟩
  · rw [he]
    refine ⟨if ok then .tuple #[z, .bool false] else z, ?_, pair rz⟩
    simp only [Instr.lookup, Sem.run_bind, run_underlying' hm, Result.andThen_ok, Sem.run_pure, run_checkKey_int hkt]
    rw [run_findKey_int (c := cx w.heap H β F) hkt (r := none) (by rfl)]
    simp only [Result.andThen_ok, Sem.run_bind, run_zeroValue' hi hz, Sem.run_pure]
  · rcases findNow_ents (n := key.num) ents.toList (x.entsOf H) 0 (by simpa using hl) (fun i e y a c => hes i e y (by simpa using a) c) hks with ⟨g1, g2, _⟩ | ⟨j, e, y, g1, g2, g3, _, g5, _⟩
    · rw [g2]
      refine ⟨if ok then .tuple #[z, .bool false] else z, ?_, pair rz⟩
      simp only [Instr.lookup, Sem.run_bind, run_underlying' hm, Result.andThen_ok, Sem.run_pure, run_checkKey_int hkt, run_getMap hb]
      rw [run_findKey_int (c := cx w.heap H β F) hkt g1]
      simp only [Result.andThen_ok, Sem.run_bind, run_zeroValue' hi hz, Sem.run_pure]
    · rw [g5]
      refine ⟨if ok then .tuple #[e.val, .bool true] else e.val, ?_, pair (hes j e y (by simpa using g2) g3).2⟩
      simp only [Instr.lookup, Sem.run_bind, run_underlying' hm, Result.andThen_ok, Sem.run_pure, run_checkKey_int hkt, run_getMap hb]
      rw [run_findKey_int (c := cx w.heap H β F) hkt g1]
      simp only [Result.andThen_ok, Sem.run_bind, Sem.run_pure]

theorem run_len_map {mt kt et : TypeId} {v : Value} {x : V} {ats : Array TypeId} {ty : TypeId} {args : Array Value} (hk : HOK w.heap H β F) (h0 : ats[0]? = some mt) (h1 : args[0]? = some v) (hm : P.underlying mt = some (.map kt et)) (hr : RV (cx w.heap H β F) v x) (ho : okMp H x) :
    (Builtin.len_ ats ty args).run P w = .ok (.int .i64 (x.entsOf H).length) w := by
  rcases hr.mapv hk ho with ⟨rfl, he⟩ | ⟨b, ents, clock, rfl, hb, hl, hes⟩
  · rw [he]
    simp only [Builtin.len_, Sem.run_bind, h0, h1, run_underlying' hm, Result.andThen_ok, Sem.run_pure]; rfl
  · simp only [Builtin.len_, Sem.run_bind, h0, h1, run_underlying' hm, Result.andThen_ok, Sem.run_pure, run_getMap hb, hl]; rfl

/-! Structs compared. -/

theorem part_one {t : TypeId} {i : TypeInfo} {vs : Array Value} {off : Nat} {u : Value} (hi : P.info? t = some i) (hs : i.size = 1) (ha : isAggP P t = some false) (hu : vs[off]? = some u) : (part t vs off).run P w = .ok u w := by
  have hlt : off < vs.size := (Array.getElem?_eq_some_iff.1 hu).1
  unfold part
  simp only [Sem.run_bind, run_isAgg ha, Result.andThen_ok, run_sizeOf' hi]
  simp [hs, hu]

theorem run_eqFields {c : Cx} {xs ys : Array Value} {cs ds : List V} (hx : ∀ (i : Nat) (v : Value) (x : V), xs[i]? = some v → cs[i]? = some x → RV c v x) (hy : ∀ (i : Nat) (v : Value) (x : V), ys[i]? = some v → ds[i]? = some x → RV c v x)
    (lx : xs.size = cs.length) (ly : ys.size = ds.length) : ∀ (fs : List Field) (offs : List (Nat × Nat)), fs.mapM (cmpEqF P) = some offs → (∀ o ∈ offs, isK o.2 (cs.getD o.1 .any) (ds.getD o.1 .any) = true) →
    (Op.eqFields 9999 xs ys fs).run P w = .ok (offs.all fun o => eqK (cs.getD o.1 .any) (ds.getD o.1 .any)) w := by
  intro fs
  induction fs with
  | nil => intro offs h _; simp at h; subst h; rfl
  | cons f fs ih =>
    intro offs h hk
    rw [List.mapM_cons] at h
    simp only [bind, Option.bind_eq_some_iff, pure, Option.some.injEq] at h
    obtain ⟨o, ho, offs', h2, rfl⟩ := h
    have hk0 := hk o (by simp)
    have ih' := ih offs' h2 fun o' h' => hk o' (by simp [h'])
    have vals : ∀ {off : Nat} {u : V} {L : List V} {zs : Array Value}, (∀ (i : Nat) (v : Value) (x : V), zs[i]? = some v → L[i]? = some x → RV c v x) → zs.size = L.length → L.getD off .any = u → u ≠ .any → ∃ v, zs[off]? = some v ∧ RV c v u := by
      intro off u L zs h hl e hu
      have hlt : off < L.length := by
        refine Nat.lt_of_not_le fun hle => hu ?_
        rw [← e]; simp [List.getD, List.getElem?_eq_none hle]
      have hz : zs[off]? = some (zs[off]'(by omega)) := by simp [hl, hlt]
      exact ⟨_, hz, by rw [← e]; exact h off _ _ hz (get_of_getD hlt)⟩
    unfold cmpEqF at ho
    split at ho
    · cases ho
    · next hname =>
    have fin : ∀ {tt : TypeDesc} {inf : TypeInfo} {u v : Value} {b : Bool}, P.underlying f.type = some tt → isAggP P f.type = some false → P.info? f.type = some inf → inf.size = 1 → xs[o.1]? = some u → ys[o.1]? = some v → o.1 = f.offset →
        (Op.equalIn 9999 f.type u v).run P w = .ok b w → b = eqK (cs.getD o.1 .any) (ds.getD o.1 .any) →
        (Op.eqFields 9999 xs ys (f :: fs)).run P w = .ok ((o :: offs').all fun o => eqK (cs.getD o.1 .any) (ds.getD o.1 .any)) w := by
      intro tt inf u v b _ ha hi hs hu hv ho1 he hb
      rw [ho1] at hu hv
      simp only [Op.eqFields, ne_eq, hname, not_false_eq_true, if_true, Sem.run_bind, part_one hi hs ha hu, part_one hi hs ha hv, Result.andThen_ok, he, List.all_cons, ← hb]
      cases b
      · simp
      · simp [ih']
    split at ho
    · next k hu =>
      simp only [Option.bind_eq_some_iff] at ho
      obtain ⟨inf, hi, ho⟩ := ho
      split at ho
      · next hs =>
        cases ho
        have hk1 := hk0
        unfold isK at hk1
        split at hk1 <;> first | cases hk1 | skip
        · next k1 n1 k2 n2 e0 e1 e2 =>
          simp only [decide_eq_true_eq] at hk1
          subst hk1
          obtain ⟨u, a1, a2⟩ := vals hx lx e1 (by simp)
          obtain ⟨v, b1, b2⟩ := vals hy ly e2 (by simp)
          cases a2.of_a; cases b2.of_a
          refine fin hu (by simp [isAggP, hu]) hi hs a1 b1 rfl (run_equalIn_int (P := P) w 9998 f.type k1 k n1 n2 hu) ?_
          rw [e1, e2]; rfl
        · next e0 _ _ => cases e0
        · next e0 _ _ => cases e0
      · cases ho
    · next hu =>
      simp only [Option.bind_eq_some_iff] at ho
      obtain ⟨inf, hi, ho⟩ := ho
      split at ho
      · next hs =>
        cases ho
        have hk1 := hk0
        unfold isK at hk1
        split at hk1 <;> first | cases hk1 | skip
        · next e0 _ _ => cases e0
        · next e0 e1 e2 =>
          obtain ⟨u, a1, a2⟩ := vals hx lx e1 (by simp)
          obtain ⟨v, b1, b2⟩ := vals hy ly e2 (by simp)
          cases a2.of_a; cases b2.of_a
          refine fin hu (by simp [isAggP, hu]) hi hs a1 b1 rfl (run_equalIn_string (P := P) w 9998 f.type _ _ hu) ?_
          rw [e1, e2]; rfl
        · next e0 _ _ => cases e0
      · cases ho
    · next hu =>
      simp only [Option.bind_eq_some_iff] at ho
      obtain ⟨inf, hi, ho⟩ := ho
      split at ho
      · next hs =>
        cases ho
        have hk1 := hk0
        unfold isK at hk1
        split at hk1 <;> first | cases hk1 | skip
        · next e0 _ _ => cases e0
        · next e0 _ _ => cases e0
        · next e0 e1 e2 =>
          obtain ⟨u, a1, a2⟩ := vals hx lx e1 (by simp)
          obtain ⟨v, b1, b2⟩ := vals hy ly e2 (by simp)
          cases a2.of_a; cases b2.of_a
          refine fin hu (by simp [isAggP, hu]) hi hs a1 b1 rfl (run_equalIn_bool' (P := P) w 9998 f.type _ _ hu) ?_
          rw [e1, e2]; rfl
      · cases ho
    · cases ho

theorem run_binOp_structEq {t : TypeId} {fs : Array Field} {c : Cx} {u v : Value} {x y : V} {offs : List (Nat × Nat)} (neg : Bool) (hu : P.underlying t = some (.struct fs)) (hp : P.stoodInHeld t = false) (hf : fs.toList.mapM (cmpEqF P) = some offs)
    (h : match x, y with | .agg cs, .agg ds => ∀ o ∈ offs, isK o.2 (cs.getD o.1 .any) (ds.getD o.1 .any) = true | _, _ => False) (rx : RV c u x) (ry : RV c v y) :
    (∃ xs ys, u = .agg xs ∧ v = .agg ys) ∧ (binOp (if neg then .neq else .eql) t u v).run P w = .ok (.bool ((offs.all fun o => eqK (x.cells.getD o.1 .any) (y.cells.getD o.1 .any)) ^^ neg)) w := by
  cases x with
  | agg cs =>
    cases y with
    | agg ds =>
      obtain ⟨xs, rfl, lx, hx, _⟩ := rx.of_agg
      obtain ⟨ys, rfl, ly, hy, _⟩ := ry.of_agg
      have hfo : P.fieldsOf t = fs := by simp [Program.fieldsOf, hu]
      have := run_eqFields (P := P) (w := w) hx hy lx ly fs.toList offs hf h
      have e : (Op.equalIn 10000 t (.agg xs) (.agg ys)).run P w = .ok (offs.all fun o => eqK (cs.getD o.1 .any) (ds.getD o.1 .any)) w := by
        rw [run_equalIn_struct w 9999 t xs ys (by rw [hfo]; exact hu) hp, hfo]; exact this
      refine ⟨⟨_, _, rfl, rfl⟩, ?_⟩
      cases neg
      · simp only [Bool.false_eq_true, if_false, run_eql_struct, e, Result.andThen_ok, V.cells, Bool.xor_false]
      · simp only [if_true, run_neq_struct, e, Result.andThen_ok, V.cells, Bool.xor_true]
    | _ => exact h.elim
  | _ => exact h.elim

theorem run_items {c : Cx} {e : TypeId} {k0 : IntKind} {inf : TypeInfo} {xs ys : Array Value} {cs ds : List V} (hu : P.underlying e = some (.int k0)) (hi : P.info? e = some inf) (hs : inf.size = 1)
    (hx : ∀ (i : Nat) (v : Value) (x : V), xs[i]? = some v → cs[i]? = some x → RV c v x) (hy : ∀ (i : Nat) (v : Value) (x : V), ys[i]? = some v → ds[i]? = some x → RV c v x) (lx : xs.size = cs.length) (ly : ys.size = ds.length) :
    ∀ (is : List Nat), (∀ i ∈ is, isK 0 (cs.getD i .any) (ds.getD i .any) = true) → (Op.eqItems 9999 e 1 xs ys is).run P w = .ok (is.all fun i => eqK (cs.getD i .any) (ds.getD i .any)) w := by
  have vals : ∀ {off : Nat} {u : V} {L : List V} {zs : Array Value}, (∀ (i : Nat) (v : Value) (x : V), zs[i]? = some v → L[i]? = some x → RV c v x) → zs.size = L.length → L.getD off .any = u → u ≠ .any → ∃ v, zs[off]? = some v ∧ RV c v u := by
    intro off u L zs h hl e hu
    have hlt : off < L.length := by
      refine Nat.lt_of_not_le fun hle => hu ?_
      rw [← e]; simp [List.getD, List.getElem?_eq_none hle]
    have hz : zs[off]? = some (zs[off]'(by omega)) := by simp [hl, hlt]
    exact ⟨_, hz, by rw [← e]; exact h off _ _ hz (get_of_getD hlt)⟩
  have ha : isAggP P e = some false := by simp [isAggP, hu]
  intro is
  induction is with
  | nil => intro _; simp [Op.eqItems]
  | cons i is ih =>
    intro hk
    have hk0 := hk i (by simp)
    have ih' := ih fun j hj => hk j (by simp [hj])
    unfold isK at hk0
    split at hk0 <;> first | cases hk0 | skip
    rotate_left
    · next e0 _ _ => cases e0
    · next e0 _ _ => cases e0
    · next k1 n1 k2 n2 e0 e1 e2 =>
      simp only [decide_eq_true_eq] at hk0
      subst hk0
      obtain ⟨u, a1, a2⟩ := vals hx lx e1 (by simp)
      obtain ⟨v, b1, b2⟩ := vals hy ly e2 (by simp)
      cases a2.of_a; cases b2.of_a
      have hq : eqK (cs.getD i .any) (ds.getD i .any) = (n1 == n2) := by rw [e1, e2]; rfl
      simp only [Op.eqItems, Nat.mul_one, Sem.run_bind, part_one hi hs ha a1, part_one hi hs ha b1, Result.andThen_ok, run_equalIn_int (P := P) w 9998 e k1 k0 n1 n2 hu, List.all_cons, hq]
      cases n1 == n2
      · simp
      · simp [ih']

theorem run_binOp_arrayEq {t e : TypeId} {n : Nat} {k0 : IntKind} {inf : TypeInfo} {c : Cx} {u v : Value} {x y : V} (neg : Bool) (hu : P.underlying t = some (.array n e)) (he : P.underlying e = some (.int k0)) (hi : P.info? e = some inf) (hs : inf.size = 1)
    (h : match x, y with | .agg cs, .agg ds => ∀ o ∈ (List.range n).map (fun k => (k, 0)), isK o.2 (cs.getD o.1 .any) (ds.getD o.1 .any) = true | _, _ => False) (rx : RV c u x) (ry : RV c v y) :
    (∃ xs ys, u = .agg xs ∧ v = .agg ys) ∧ (binOp (if neg then .neq else .eql) t u v).run P w = .ok (.bool ((((List.range n).map fun k => (k, 0)).all fun (o : Nat × Nat) => eqK (x.cells.getD o.1 .any) (y.cells.getD o.1 .any)) ^^ neg)) w := by
  cases x with
  | agg cs =>
    cases y with
    | agg ds =>
      obtain ⟨xs, rfl, lx, hx, _⟩ := rx.of_agg
      obtain ⟨ys, rfl, ly, hy, _⟩ := ry.of_agg
      have hc : P.cellsOf e = 1 := by simp [Program.cellsOf, hi, hs]
      have h' : ∀ i ∈ List.range n, isK 0 (cs.getD i .any) (ds.getD i .any) = true := fun i hi' => h (i, 0) (List.mem_map.2 ⟨i, hi', rfl⟩)
      have g : (Op.equalIn 10000 t (.agg xs) (.agg ys)).run P w = .ok ((List.range n).all fun i => eqK (cs.getD i .any) (ds.getD i .any)) w := by
        rw [run_equalIn_array w 9999 xs ys hu hi, hc]
        exact run_items he hi hs hx hy lx ly _ h'
      have e2 : (((List.range n).map fun k => (k, 0)).all fun (o : Nat × Nat) => eqK (cs.getD o.1 .any) (ds.getD o.1 .any)) = (List.range n).all fun i => eqK (cs.getD i .any) (ds.getD i .any) := by
        rw [List.all_map]; rfl
      refine ⟨⟨_, _, rfl, rfl⟩, ?_⟩
      cases neg
      · simp only [Bool.false_eq_true, if_false, run_eql_struct, g, Result.andThen_ok, V.cells, Bool.xor_false, e2]
      · simp only [if_true, run_neq_struct, g, Result.andThen_ok, V.cells, Bool.xor_true, e2]
    | _ => exact h.elim
  | _ => exact h.elim

/-! Bytes as text. -/

theorem RV.bytes {v : Value} {x : V} (hk : HOK w.heap H β F) (hr : RV (cx w.heap H β F) v x) (ho : okSl H x) (he : x.slEs 1) (hb : ∀ r ∈ x.rowsOf H, (r.headD .any).isByte = true) :
    (Conv.bytesToString v).run P w = .ok (.string (bytesOf (x.rowsOf H))) w := by
  obtain ⟨base, len, cap, rfl, h1, h2, h3, h4⟩ := hr.sl hk ho
  have hcell : ∀ i, i < len → ∃ ad row, base = some ad ∧ (x.rowsOf H)[i]? = some row ∧ w.cell? (ad.add i) = some (.int .u8 (row.headD .any).num) := by
    intro i hi
    obtain ⟨ad, e, r⟩ := h4 1 he i hi
    rw [Nat.mul_one] at r
    have hel : okAt H (x.elemAt i) ∧ ∃ row, (x.rowsOf H)[i]? = some row ∧ cellsAt H (x.elemAt i) = row.drop 0 := by
      cases x with
      | own id es off len' tot =>
        obtain ⟨o1, o2⟩ := ho
        have hl : len = len' := by simp only [V.slLen] at h1; omega
        obtain ⟨fz, refs, rows, hid, hrw⟩ := mem_get o1
        have hlt : off + i < rows.length := by
          rw [hrw] at o2
          cases hr with
          | own hl' h =>
            obtain ⟨g1, g2⟩ := h ((β id).wt rows.length) (by show hdOf H β id = _; simp [hdOf, hid])
            obtain ⟨_, _, g5⟩ := g2 o2
            rcases g5 with ⟨_, _, g⟩ | ⟨_, _, _, g, _⟩
            · omega
            · have : off + len' ≤ rows.length := g
              omega
        refine ⟨⟨o1, o2, ?_⟩, (H.getD id .dead).rows.getD (off + i) [], ?_, rfl⟩
        · rw [← o2, hrw]; exact hlt
        · simp only [V.rowsOf, List.getElem?_take, List.getElem?_drop]
          rw [if_pos (by omega), hrw]; exact get_of_getD hlt
      | view es rows =>
        have hl : len = rows.length := by simp only [V.slLen] at h1; omega
        exact ⟨trivial, rows.getD i [], get_of_getD (show i < rows.length by omega), rfl⟩
      | a u =>
        exfalso
        have : V.slLen (.a u) = 0 := rfl
        omega
      | nul es =>
        exfalso
        have : V.slLen (.nul es) = 0 := rfl
        omega
      | _ => exact ho.elim
    obtain ⟨hok, row, hrow, hcells⟩ := hel
    obtain ⟨b, o, e2, hc⟩ := r.cells hk hok
    have hbyte := hb row (List.mem_of_getElem? hrow)
    cases row with
    | nil => simp [V.isByte] at hbyte
    | cons y row =>
      obtain ⟨u, g1, _, g3⟩ := hc 0 y (by rw [hcells]; rfl)
      simp only [Value.pointer.injEq, Option.some.injEq] at e2
      refine ⟨ad, _, e, hrow, ?_⟩
      rw [e2, cell?_look]
      rw [Nat.add_zero] at g1
      rw [g1]
      simp only [List.headD_cons] at hbyte ⊢
      unfold V.isByte at hbyte
      split at hbyte
      · rw [g3.of_a]; rfl
      · cases hbyte
  have hlen : (x.rowsOf H).length = len := by
    cases x with
    | own id es off len' tot =>
      have hl : len = len' := by simp only [V.slLen] at h1; omega
      subst hl
      by_cases h0 : len = 0
      · subst h0; simp [V.rowsOf]
      · obtain ⟨_, row, _, hrow, _⟩ := hcell (len - 1) (by omega)
        have := lt_of_get hrow
        have h2 : (V.rowsOf H (.own id es off len tot)).length ≤ len := by simp [V.rowsOf]; omega
        omega
    | view es rows => simp only [V.slLen] at h1; simp only [V.rowsOf]; omega
    | a u =>
      have : V.slLen (.a u) = 0 := rfl
      simp only [V.rowsOf, List.length_nil]; omega
    | nul es =>
      have : V.slLen (.nul es) = 0 := rfl
      simp only [V.rowsOf, List.length_nil]; omega
    | _ => exact ho.elim
  cases base with
  | none =>
    have : len = 0 := by
      refine Nat.eq_zero_of_not_pos fun hp => ?_
      obtain ⟨ad, _, e, _⟩ := hcell 0 hp
      cases e
    have : x.rowsOf H = [] := List.eq_nil_of_length_eq_zero (by omega)
    rw [this]
    rfl
  | some ad =>
    have hrun := run_loadCells (P := P) w ad len (fun i => .int .u8 (((x.rowsOf H).getD i []).headD .any).num) (fun i hi => by
      obtain ⟨ad', row, e, hrow, hc⟩ := hcell i hi
      injection e with e; subst e
      rw [hc, getD_some hrow])
    simp only [Conv.bytesToString, Sem.run_bind, hrun, Result.andThen_ok]
    have hloop : ∀ (l : List (List V)) (acc : ByteArray), ((forIn (m := Sem) (l.map fun r => Value.int .u8 (r.headD .any).num) acc fun c s => do
        let .int .u8 n := c | stuck "bytesToString: byte expected"
        let s := s.push (UInt8.ofNat n.toNat)
        pure (ForInStep.yield s)).run P w) = .ok (⟨acc.data ++ (bytesOf l).data⟩) w := by
      intro l
      induction l with
      | nil => intro acc; simp [bytesOf]
      | cons r l ih =>
        intro acc
        simp only [List.map_cons, List.forIn_cons, Sem.run_bind, Sem.run_pure, Result.andThen_ok]
        rw [ih]
        congr 1
        simp [bytesOf, ByteArray.push]
    have hl2 : ((List.range len).map fun i => Value.int .u8 (((x.rowsOf H).getD i []).headD .any).num) = (x.rowsOf H).map fun r => Value.int .u8 (r.headD .any).num := by
      apply List.ext_getElem?
      intro i
      simp only [List.getElem?_map]
      by_cases hi : i < len
      · rw [List.getElem?_range hi, get_of_getD (l := x.rowsOf H) (d := []) (by omega)]; rfl
      · rw [List.getElem?_eq_none (by simp; omega), List.getElem?_eq_none (l := x.rowsOf H) (by omega)]; rfl
    rw [hl2]
    have := hloop (x.rowsOf H) ByteArray.empty
    simp only [List.forIn_toArray] 
    refine Eq.trans (congrArg (fun r => Result.andThen r fun a w' => Sem.run P (pure (Value.string a)) w') ?_) (b := Result.andThen (.ok ⟨ByteArray.empty.data ++ (bytesOf (x.rowsOf H)).data⟩ w) fun a w' => Sem.run P (pure (Value.string a)) w') ?_
    · rw [← this]
      congr 2
    · have hb0 : ∀ b : ByteArray, (⟨ByteArray.empty.data ++ b.data⟩ : ByteArray) = b := fun b => by
        have : ByteArray.empty.data = #[] := rfl
        rw [this, Array.empty_append]
      rw [hb0]; rfl

theorem eqGuard_z {op : BinOp} {t : TypeId} {x y : Operand} {u : Value} {kd : Nat} (h : (∃ p, u = .pointer p) ∨ (∃ m, u = .map m) ∨ u = .nilFunc ∨ ∃ f a b, u = .func f a b) {v : Value} : (eqGuard op t x y u v).run P w = .ok () w := by
  rcases h with ⟨p, rfl⟩ | ⟨m, rfl⟩ | rfl | ⟨f, a, b, rfl⟩ <;> (unfold eqGuard; split <;> simp)

theorem eqIn_ptr (d : Nat) {t e : TypeId} (hu : P.underlying t = some (.pointer e)) (p : Option Addr) : (Op.equalIn (d + 1) t (.pointer p) (.pointer none)).run P w = .ok p.isNone w := by
  cases p <;> simp [Op.equalIn, run_underlying' hu]
theorem eqIn_map (d : Nat) {t k e : TypeId} (hu : P.underlying t = some (.map k e)) (p : Option Nat) : (Op.equalIn (d + 1) t (.map p) (.map none)).run P w = .ok p.isNone w := by
  cases p <;> simp [Op.equalIn, run_underlying' hu]
theorem eqIn_fn (d : Nat) {t : TypeId} {a b c} (hu : P.underlying t = some (.func a b c)) : (Op.equalIn (d + 1) t .nilFunc .nilFunc).run P w = .ok true w := by
  simp [Op.equalIn, run_underlying' hu]
theorem eqIn_fn' (d : Nat) {t : TypeId} {a b c} (hu : P.underlying t = some (.func a b c)) {f x y} : (Op.equalIn (d + 1) t (.func f x y) .nilFunc).run P w = .ok false w := by
  simp [Op.equalIn, run_underlying' hu]

theorem run_eqZ {t : TypeId} {u v : Value} {x : V} {kd : Nat} {y : Operand} (neg : Bool) (hk : HOK w.heap H β F) (hy : isNilZ kd y = true) (hv : ∀ c, y = .const c → v = c) (hr : RV (cx w.heap H β F) u x) (h1 : (x.nilK kd).isSome = true) (h2 : okZ H x)
    (hu : (kd = 0 → ∃ e, P.underlying t = some (.pointer e)) ∧ (kd = 1 → ∃ k e, P.underlying t = some (.map k e)) ∧ (kd = 2 → ∃ a b c, P.underlying t = some (.func a b c))) :
    ((∃ p, u = .pointer p) ∨ (∃ m, u = .map m) ∨ u = .nilFunc ∨ ∃ f a b, u = .func f a b) ∧ (binOp (if neg then .neq else .eql) t u v).run P w = .ok (.bool ((x.nilK kd == some true) ^^ neg)) w := by
  have fin : ∀ {u v : Value} {b : Bool}, (Op.equalIn 10000 t u v).run P w = .ok b w → (∀ k n, u ≠ .int k n) → (∀ k n, u ≠ .float k n) → (∀ k n m, u ≠ .complex k n m) → (∀ s, u ≠ .string s) → (binOp (if neg then .neq else .eql) t u v).run P w = .ok (.bool (b ^^ neg)) w := by
    intro u v b h n1 n2 n3 n4
    cases neg
    · have : binOp .eql t u v = (do pure (.bool (← Op.equal t u v))) := by
        cases u <;> first | rfl | exact (n1 _ _ rfl).elim | exact (n2 _ _ rfl).elim | exact (n3 _ _ _ rfl).elim | exact (n4 _ rfl).elim
      simp only [Bool.false_eq_true, if_false, this, Op.equal, Op.maxDepth, Sem.run_bind, h, Result.andThen_ok, Sem.run_pure, Bool.xor_false]
    · have : binOp .neq t u v = (do pure (.bool (!(← Op.equal t u v)))) := by
        cases u <;> first | rfl | exact (n1 _ _ rfl).elim | exact (n2 _ _ rfl).elim | exact (n3 _ _ _ rfl).elim | exact (n4 _ rfl).elim
      simp only [if_true, this, Op.equal, Op.maxDepth, Sem.run_bind, h, Result.andThen_ok, Sem.run_pure, Bool.xor_true]
  unfold isNilZ at hy
  split at hy <;> first | cases hy | skip
  · obtain ⟨e, hu⟩ := hu.1 rfl
    cases hv _ rfl
    cases hr with
    | a =>
      cases u with
      | pointer p =>
        cases p with
        | none => exact ⟨.inl ⟨_, rfl⟩, fin (b := true) (eqIn_ptr 9999 hu none) (by simp) (by simp) (by simp) (by simp)⟩
        | some p => simp [V.nilK] at h1
      | _ => simp [V.nilK] at h1
    | ptr hl h =>
      rename_i id tot i j
      obtain ⟨b, o, e1⟩ : ∃ b o, u = .pointer (some ⟨b, o, none⟩) := by
        rcases h2 with h2 | ⟨t1, t2⟩
        · obtain ⟨b, o, e1, _⟩ := (RV.ptr hl h).cells hk h2
          exact ⟨b, o, e1⟩
        · cases hid : H[id]? with
          | none => simp [List.getD, hid, O.isTree] at t1
          | some o =>
            rw [getD_some hid] at t1 t2
            cases o with
            | tree refs rows =>
              obtain ⟨_, g⟩ := h ((β id).wt rows.length) (by show hdOf H β id = _; unfold hdOf; rw [hid])
              exact ⟨_, _, (g t2).2.2⟩
            | _ => cases t1
      rw [e1]
      exact ⟨.inl ⟨_, rfl⟩, fin (b := false) (eqIn_ptr 9999 hu _) (by simp) (by simp) (by simp) (by simp)⟩
    | ref g hb hs hg hr => exact ⟨.inl ⟨_, rfl⟩, fin (b := false) (eqIn_ptr 9999 hu _) (by simp) (by simp) (by simp) (by simp)⟩
    | _ => simp [V.nilK] at h1
  · obtain ⟨k, e, hu⟩ := hu.2.1 rfl
    cases hv _ rfl
    cases hr with
    | a =>
      cases u with
      | map p =>
        cases p with
        | none => exact ⟨.inr (.inl ⟨_, rfl⟩), fin (b := true) (eqIn_map 9999 hu none) (by simp) (by simp) (by simp) (by simp)⟩
        | some p => simp [V.nilK] at h1
      | _ => simp [V.nilK] at h1
    | mp hl h =>
      rename_i id
      rcases (RV.mp hl h).mapv hk h2 with ⟨e1, _⟩ | ⟨b, ents, clock, e1, _⟩
      · exfalso
        obtain ⟨fz, refs, es, hid, he⟩ := map_get (show (H.getD id .dead).isMap = true from h2)
        rw [h ((β id).wt 0) (by show hdOf H β id = _; simp [hdOf, hid]) rfl] at e1
        cases e1
      · rw [e1]
        exact ⟨.inr (.inl ⟨_, rfl⟩), fin (b := false) (eqIn_map 9999 hu _) (by simp) (by simp) (by simp) (by simp)⟩
    | mview hb hm hl hkk hv => exact ⟨.inr (.inl ⟨_, rfl⟩), fin (b := false) (eqIn_map 9999 hu _) (by simp) (by simp) (by simp) (by simp)⟩
    | _ => simp [V.nilK] at h1
  · obtain ⟨p1, p2, p3, hu⟩ := hu.2.2 rfl
    cases hv _ rfl
    cases hr with
    | a =>
      cases u with
      | nilFunc => exact ⟨.inr (.inr (.inl rfl)), fin (b := true) (eqIn_fn 9999 hu) (by simp) (by simp) (by simp) (by simp)⟩
      | _ => simp [V.nilK] at h1
    | fn hl hl' h h' => exact ⟨.inr (.inr (.inr ⟨_, _, _, rfl⟩)), fin (b := false) (eqIn_fn' 9999 hu) (by simp) (by simp) (by simp) (by simp)⟩
    | _ => simp [V.nilK] at h1

end
end Go.Abs

/- Operations that leave memory alone: the machine does so (4). -/
namespace Go.Abs
set_option linter.unusedVariables false

section
variable {P : Program} {w : World} {β : Nat → Hd} {F : Nat → Prop} {N : Nat} {st : St} {a : Act}

def Sound1 (P : Program) (w : World) (β : Nat → Hd) (F : Nat → Prop) (st : St) (a : Act) (o : Oper) (x : V) : Prop :=
  ∃ v, (execOp a.eval o).run P w = .ok (.value v) w ∧ RV (cx w.heap st.hp β F) v x

theorem Sound1.of {o : Oper} {x : V} {s : Sem Value} (hs : execOp a.eval o = (do pure (Next.value (← s)))) (h : ∃ v, s.run P w = .ok v w ∧ RV (cx w.heap st.hp β F) v x) : Sound1 P w β F st a o x := by
  obtain ⟨v, h1, h2⟩ := h
  exact ⟨v, by rw [hs]; simp [h1], h2⟩

theorem nilSl_iff {v : Value} {x : V} (hk : HOK w.heap st.hp β F) (hr : RV (cx w.heap st.hp β F) v x) (ho : okSl st.hp x) (hx : x.nilSl = true ∨ x.slLen ≠ 0 ∨ x.isA = true) :
    ∃ base len cap, v = .slice base len cap ∧ base.isNone = x.nilSl := by
  obtain ⟨base, len, cap, rfl, h1, h2, h3, h4⟩ := hr.sl hk ho
  refine ⟨base, len, cap, rfl, ?_⟩
  cases hn : x.nilSl with
  | true => rw [(h3 hn).1]; rfl
  | false =>
    rw [hn] at hx
    rcases hx with hx | hx | hx
    · cases hx
    rotate_left
    · cases x <;> simp [V.isA] at hx
      rename_i u
      have hu := hr.of_a
      subst hu
      cases base with
      | some ad => rfl
      | none =>
        exfalso
        cases len with
        | zero => cases cap with
          | zero => simp [V.nilSl] at hn
          | succ c => exact ho.elim
        | succ n => exact ho.elim
    have h0 : 0 < len := by omega
    have : ∃ es, x.slEs es := by
      cases x <;> first | exact ⟨_, rfl⟩ | exact ⟨0, trivial⟩
    obtain ⟨es, he⟩ := this
    obtain ⟨ad, rfl, _⟩ := h4 es he 0 h0
    rfl

set_option maxHeartbeats 1000000 in
theorem L.sound {l : L} {o : Oper} (hR : Rel w β F N st a) (hc : cmpL P o.op = some l) (hp : l.pre st) : Sound1 P w β F st a o (l.val st) := by
  have hk := hR.hok
  obtain ⟨dst, op, ty, pos, after, guard⟩ := o
  simp only at hc
  cases op with
  | move x =>
    simp only [cmpL, Option.some.injEq] at hc; subst hc
    exact ⟨_, rfl, hR.ev x⟩
  | assign x =>
    simp only [cmpL, Option.some.injEq] at hc; subst hc
    exact ⟨_, rfl, hR.ev x⟩
  | pick c x y =>
    simp only [cmpL, Option.some.injEq] at hc; subst hc
    have h1 := (hR.ev c).of_bool hp
    have h2 : (execOp a.eval ⟨dst, .pick c x y, ty, pos, after, guard⟩) = (do pure (.value (if ← asBool (a.eval c) then a.eval x else a.eval y))) := rfl
    refine ⟨if (st.ev c).tru then a.eval x else a.eval y, by rw [h2, h1]; simp [asBool], ?_⟩
    show RV _ _ (if _ then _ else _)
    split
    · exact hR.ev x
    · exact hR.ev y
  | binOp op t x y t' =>
    have hs : execOp a.eval ⟨dst, .binOp op t x y t', ty, pos, after, guard⟩ = (do pure (Next.value (← (do eqGuard op t x y (a.eval x) (a.eval y); binOp op t (a.eval x) (a.eval y) : Sem Value)))) := rfl
    simp only [cmpL, cmpBin] at hc
    split at hc
    · simp only [Option.some.injEq] at hc; subst hc
      exact .of hs (sound_bin hR (t' := t') hp)
    · simp only [Option.some.injEq] at hc; subst hc
      exact .of hs (sound_bin hR (t' := t') hp)
    · next hu =>
      split at hc
      · next hop =>
        subst hop
        simp only [Option.some.injEq] at hc; subst hc
        obtain ⟨p1, p2⟩ := hp
        refine .of hs ⟨_, ?_, .a⟩
        rw [(hR.ev x).of_bool p1, (hR.ev y).of_bool p2]
        simp only [Sem.run_bind, eqGuard_bool, Result.andThen_ok]
        exact run_binOp_boolEq false hu
      · split at hc
        · next hop =>
          subst hop
          simp only [Option.some.injEq] at hc; subst hc
          obtain ⟨p1, p2⟩ := hp
          refine .of hs ⟨_, ?_, .a⟩
          rw [(hR.ev x).of_bool p1, (hR.ev y).of_bool p2]
          simp only [Sem.run_bind, eqGuard_bool, Result.andThen_ok]
          exact run_binOp_boolEq true hu
        · cases hc
    · next fs hu =>
      split at hc
      · cases hc
      · next hg =>
        simp only [Bool.or_eq_true, not_or, Bool.not_eq_true] at hg
        simp only [Option.bind_eq_some_iff] at hc
        obtain ⟨offs, hoffs, hc⟩ := hc
        have key : ∀ neg, (op = if neg then .neq else .eql) → l = .eqD neg offs x y → Sound1 P w β F st a ⟨dst, .binOp op t x y t', ty, pos, after, guard⟩ (l.val st) := by
          intro neg e1 e2
          subst e2
          obtain ⟨⟨xs, ys, g1, g2⟩, g3⟩ := run_binOp_structEq (P := P) (w := w) (t := t) neg hu hg.2 hoffs hp (hR.ev x) (hR.ev y)
          refine .of hs ⟨_, ?_, .a⟩
          rw [g1, g2] at g3 ⊢
          simp only [Sem.run_bind, run_eqGuard_agg w op t x y xs ys hg.1, Result.andThen_ok]
          rw [e1]; exact g3
        split at hc
        · next hop => cases hc; exact key false hop rfl
        · split at hc
          · next hop => cases hc; exact key true hop rfl
          · cases hc
    · next n e hu =>
      split at hc
      · cases hc
      · next hg =>
        simp only [Bool.not_eq_true] at hg
        split at hc <;> first | cases hc | skip
        next k0 he =>
        simp only [Option.bind_eq_some_iff] at hc
        obtain ⟨inf, hi, hc⟩ := hc
        split at hc <;> first | cases hc | skip
        next hs1 =>
        have key : ∀ neg, (op = if neg then .neq else .eql) → l = .eqD neg ((List.range n).map fun k => (k, 0)) x y → Sound1 P w β F st a ⟨dst, .binOp op t x y t', ty, pos, after, guard⟩ (l.val st) := by
          intro neg e1 e2
          subst e2
          obtain ⟨⟨xs, ys, g1, g2⟩, g3⟩ := run_binOp_arrayEq (P := P) (w := w) (t := t) neg hu he hi hs1 hp (hR.ev x) (hR.ev y)
          refine .of hs ⟨_, ?_, .a⟩
          rw [g1, g2] at g3 ⊢
          simp only [Sem.run_bind, run_eqGuard_agg w op t x y xs ys hg, Result.andThen_ok]
          rw [e1]; exact g3
        split at hc
        · next hop => cases hc; exact key false hop rfl
        · split at hc
          · next hop => cases hc; exact key true hop rfl
          · cases hc
    · next e hu =>
      split at hc
      · next hn =>
        have key : ∀ neg, (op = if neg then .neq else .eql) → l = .eqZ 0 neg x → Sound1 P w β F st a ⟨dst, .binOp op t x y t', ty, pos, after, guard⟩ (l.val st) := by
          intro neg e1 e2
          subst e2
          obtain ⟨p1, p2⟩ := hp
          obtain ⟨g1, g2⟩ := run_eqZ (P := P) (t := t) (v := a.eval y) (kd := 0) neg hk hn (fun c e => by rw [e]; rfl) (hR.ev x) p1 p2 ⟨fun _ => ⟨_, hu⟩, fun h => (by cases h), fun h => (by cases h)⟩
          refine .of hs ⟨_, ?_, .a⟩
          simp only [Sem.run_bind, eqGuard_z (kd := 0) g1, Result.andThen_ok]
          rw [e1]; exact g2
        split at hc
        · next hop => cases hc; exact key false hop rfl
        · split at hc
          · next hop => cases hc; exact key true hop rfl
          · cases hc
      · cases hc
    · next k e hu =>
      split at hc
      · next hn =>
        have key : ∀ neg, (op = if neg then .neq else .eql) → l = .eqZ 1 neg x → Sound1 P w β F st a ⟨dst, .binOp op t x y t', ty, pos, after, guard⟩ (l.val st) := by
          intro neg e1 e2
          subst e2
          obtain ⟨p1, p2⟩ := hp
          obtain ⟨g1, g2⟩ := run_eqZ (P := P) (t := t) (v := a.eval y) (kd := 1) neg hk hn (fun c e => by rw [e]; rfl) (hR.ev x) p1 p2 ⟨fun h => (by cases h), fun _ => ⟨_, _, hu⟩, fun h => (by cases h)⟩
          refine .of hs ⟨_, ?_, .a⟩
          simp only [Sem.run_bind, eqGuard_z (kd := 1) g1, Result.andThen_ok]
          rw [e1]; exact g2
        split at hc
        · next hop => cases hc; exact key false hop rfl
        · split at hc
          · next hop => cases hc; exact key true hop rfl
          · cases hc
      · cases hc
    · next e1 e2 e3 hu =>
      split at hc
      · next hn =>
        have key : ∀ neg, (op = if neg then .neq else .eql) → l = .eqZ 2 neg x → Sound1 P w β F st a ⟨dst, .binOp op t x y t', ty, pos, after, guard⟩ (l.val st) := by
          intro neg e1 e2
          subst e2
          obtain ⟨p1, p2⟩ := hp
          obtain ⟨g1, g2⟩ := run_eqZ (P := P) (t := t) (v := a.eval y) (kd := 2) neg hk hn (fun c e => by rw [e]; rfl) (hR.ev x) p1 p2 ⟨fun h => (by cases h), fun h => (by cases h), fun _ => ⟨_, _, _, hu⟩⟩
          refine .of hs ⟨_, ?_, .a⟩
          simp only [Sem.run_bind, eqGuard_z (kd := 2) g1, Result.andThen_ok]
          rw [e1]; exact g2
        split at hc
        · next hop => cases hc; exact key false hop rfl
        · split at hc
          · next hop => cases hc; exact key true hop rfl
          · cases hc
      · cases hc
    · next e hu =>
      split at hc
      · next hn =>
        unfold isNilSl at hn
        split at hn
        · split at hc
          · next hop =>
            subst hop
            simp only [Option.some.injEq] at hc; subst hc
            obtain ⟨p1, p2⟩ := hp
            obtain ⟨base, len, cap, e1, e2⟩ := nilSl_iff hk (hR.ev x) p1 p2
            refine .of hs ⟨_, ?_, .a⟩
            rw [e1]
            simp only [Act.eval, Sem.run_bind, eqGuard_slice, Result.andThen_ok]
            rw [← e2]
            exact run_binOp_nil false hu rfl
          · split at hc
            · next hop =>
              subst hop
              simp only [Option.some.injEq] at hc; subst hc
              obtain ⟨p1, p2⟩ := hp
              obtain ⟨base, len, cap, e1, e2⟩ := nilSl_iff hk (hR.ev x) p1 p2
              refine .of hs ⟨_, ?_, .a⟩
              rw [e1]
              simp only [Act.eval, Sem.run_bind, eqGuard_slice, Result.andThen_ok]
              rw [← e2]
              exact run_binOp_nil true hu rfl
            · cases hc
        · cases hn
      · cases hc
    · cases hc
  | unOp op t x =>
    simp only [cmpL] at hc
    split at hc
    · next hop =>
      subst hop
      simp only [Option.some.injEq] at hc; subst hc
      refine .of rfl ⟨_, ?_, .a⟩
      rw [(hR.ev x).of_int hp]
      simp [Op.unary, Op.intArith]
    · split at hc
      · next hop =>
        subst hop
        simp only [Option.some.injEq] at hc; subst hc
        refine .of rfl ⟨_, ?_, .a⟩
        rw [(hR.ev x).of_bool hp]
        simp [Op.unary]
      · cases hc
  | load t x =>
    simp only [cmpL, Option.bind_eq_some_iff, Option.some.injEq] at hc
    obtain ⟨i, hi, agg, ha, rfl⟩ := hc
    exact .of rfl (run_loadVar' hk (hR.ev x) hi ha hp)
  | nilCheck x =>
    simp only [cmpL, Option.some.injEq] at hc; subst hc
    have hx := hR.ev x
    have hp : okNil st.hp (st.ev x) := hp
    unfold okNil at hp
    show Sound1 _ _ _ _ _ _ _ (st.ev x)
    split at hp
    · next f fs cs e =>
      rw [e] at hx
      rw [e]
      generalize hv : a.eval x = v at hx
      cases hx with
      | fn h1 h2 h3 h4 =>
        rename_i vs us
        refine ⟨.func (.func f) vs us, ?_, .fn h1 h2 h3 h4⟩
        simp only [execOp, hv]
        rfl
    · obtain ⟨b, o, e⟩ := hx.of_okAt hk hp
      refine ⟨a.eval x, ?_, hx⟩
      simp only [execOp, e]
      rfl
  | fieldAddr s x f =>
    simp only [cmpL, cmpFad] at hc
    split at hc <;> first | cases hc | skip
    next fs hu =>
    simp only [Option.bind_eq_some_iff] at hc
    obtain ⟨fd, hf, i, hi, hc⟩ := hc
    split at hc <;> first | cases hc | skip
    next hz =>
    obtain ⟨b, o, e, r⟩ := (hR.ev x).plus hk hp fd.offset
    refine .of rfl ⟨_, ?_, r⟩
    rw [e]
    simp [Instr.fieldAt, run_underlying' hu, hf, Instr.sureAddr, fieldPlace, run_sizeOf' hi, hz, addr_add]
  | field s x f =>
    simp only [cmpL, cmpFld] at hc
    split at hc <;> first | cases hc | skip
    next fs hu =>
    simp only [Option.bind_eq_some_iff, Option.some.injEq] at hc
    obtain ⟨fd, hf, i, hi, agg, ha, rfl⟩ := hc
    simp only [L.pre] at hp
    split at hp
    · next cs e =>
      have hx := hR.ev x
      rw [e] at hx
      obtain ⟨vs, e2, h1, h2, h2'⟩ := hx.of_agg
      have hp' : fd.offset + (if agg then i.size else 1) ≤ cs.length := by cases agg <;> simpa using hp
      obtain ⟨u, h3, h4⟩ := run_part' (w := w) hi ha h1 h2 h2' hp'
      refine .of rfl ⟨u, ?_, ?_⟩
      · rw [e2]; simp [Instr.field, run_underlying' hu, hf, asAgg, h3]
      · simp only [L.val, e, V.cells]; exact h4
    · exact hp.elim
  | indexAddr t x i =>
    simp only [cmpL, cmpIxA] at hc
    split at hc <;> first | cases hc | skip
    · next e hu =>
      simp only [Option.bind_eq_some_iff, Option.some.injEq] at hc
      obtain ⟨inf, hi, rfl⟩ := hc
      obtain ⟨p1, p2, p3, p4, p5⟩ := hp
      obtain ⟨base, len, cap, e1, e2, e3, e4, e5⟩ := (hR.ev x).sl hk p1
      obtain ⟨ad, rfl, r⟩ := e5 _ p2 (st.ev i).num.toNat (by omega)
      refine .of rfl ⟨_, ?_, r⟩
      rw [e1, (hR.ev i).of_int p3]
      have hlt : (st.ev i).num < (len : Int) := by omega
      simp [Instr.indexAt, asIntOf, run_underlying' hu, run_sizeOf' hi, p4, hlt]
    · next n e hu =>
      simp only [Option.bind_eq_some_iff, Option.some.injEq] at hc
      obtain ⟨inf, hi, rfl⟩ := hc
      obtain ⟨p1, p3, p4, p5⟩ := hp
      obtain ⟨b, o, e1, r⟩ := (hR.ev x).plus hk p1 ((st.ev i).num.toNat * inf.size)
      refine .of rfl ⟨_, ?_, r⟩
      rw [e1, (hR.ev i).of_int p3]
      simp [Instr.indexAt, asIntOf, run_underlying' hu, run_sizeOf' hi, p4, p5, Instr.sureAddr, addr_add]
  | index t x i =>
    simp only [cmpL, cmpIx] at hc
    split at hc <;> first | cases hc | skip
    · next hu =>
      obtain ⟨p1, p2, p3, p4⟩ := hp
      refine .of rfl ⟨_, ?_, .a⟩
      rw [(hR.ev x).of_str p1, (hR.ev i).of_int p2]
      have hlt : (st.ev i).num.toNat < (st.ev x).txt.size := by omega
      simp [Instr.index, asIntOf, run_underlying' hu, p3, range_lt _ hlt, byteAt]
    · next n e hu =>
      simp only [Option.bind_eq_some_iff, Option.some.injEq] at hc
      obtain ⟨inf, hi, agg, ha, rfl⟩ := hc
      obtain ⟨p1, p2, p3, p4⟩ := hp
      split at p4
      · next cs e1 =>
        have hx := hR.ev x
        rw [e1] at hx
        obtain ⟨vs, e2, h1, h2, h2'⟩ := hx.of_agg
        have hp' : (st.ev i).num.toNat * inf.size + (if agg then inf.size else 1) ≤ cs.length := by cases agg <;> simpa using p4
        obtain ⟨u, h3, h4⟩ := run_part' (w := w) hi ha h1 h2 h2' hp'
        refine .of rfl ⟨u, ?_, ?_⟩
        · rw [e2, (hR.ev i).of_int p1]
          simp [Instr.index, asIntOf, run_underlying' hu, p2, p3, run_sizeOf' hi, h3]
        · simp only [L.val, e1, V.cells]; exact h4
      · exact p4.elim
  | extract x i =>
    simp only [cmpL, Option.some.injEq] at hc; subst hc
    simp only [L.pre] at hp
    split at hp
    · next vs e =>
      have hx := hR.ev x
      rw [e] at hx
      obtain ⟨us, e2, h1, h2⟩ := hx.of_tup
      have g1 : us[i]? = some us[i] := Array.getElem?_eq_getElem (by omega)
      refine .of rfl ⟨us[i], ?_, ?_⟩
      · rw [e2]; simp [Instr.extract, g1]
      · simp only [L.val, e]
        exact h2 i _ _ g1 (get_of_getD hp)
    · exact hp.elim
  | convert s d x =>
    simp only [cmpL, cmpConv] at hc
    split at hc <;> first | cases hc | skip
    · next k1 k2 h1 h2 =>
      refine .of rfl ⟨_, ?_, .a⟩
      rw [(hR.ev x).of_int hp]
      simp [convert, run_underlying' h1, run_underlying' h2, Conv.intToInt]
    · next e h1 h2 =>
      split at hc <;> first | cases hc | skip
      next h3 =>
      simp only [Option.bind_eq_some_iff] at hc
      obtain ⟨inf, hinf, hc⟩ := hc
      split at hc <;> first | cases hc | skip
      obtain ⟨p1, p2, p3⟩ := hp
      refine .of rfl ⟨_, ?_, .a⟩
      have hb := (hR.ev x).bytes (P := P) hk p1 p2 p3
      obtain ⟨base, len, cap, e1, _⟩ := (hR.ev x).sl hk p1
      rw [e1] at hb ⊢
      simp only [convert, Sem.run_bind, run_underlying' h1, run_underlying' h2, Result.andThen_ok, run_underlying' h3]
      exact hb
  | lookup t x i ok =>
    simp only [cmpL, cmpLkp] at hc
    split at hc <;> first | cases hc | skip
    next kt et hm =>
    split at hc <;> first | cases hc | skip
    next kd hkt =>
    simp only [Option.bind_eq_some_iff] at hc
    obtain ⟨inf, hinf, z, hz, hc⟩ := hc
    have key : ∀ zv : V, RV (cx w.heap st.hp β F) z zv → l = .lkp ok kd zv x i → Sound1 P w β F st a ⟨dst, .lookup t x i ok, ty, pos, after, guard⟩ (l.val st) := by
      intro zv rz e
      subst e
      obtain ⟨p1, p2, p3⟩ := hp
      obtain ⟨r, g1, g2⟩ := run_lookup (P := P) (ok := ok) hk hm hkt hinf hz rz (hR.ev x) p1 p2 (hR.ev i) p3
      exact .of rfl ⟨r, g1, g2⟩
    split at hc
    · next vs =>
      split at hc
      · next hone =>
        cases hc
        refine key _ (.agg (by simp) (fun j v hv => ?_) fun j v y h1 h2 => ?_) rfl
        · exact List.all_eq_true.1 hone v (by simpa using Array.mem_of_getElem? hv)
        · simp only [List.getElem?_map, Array.getElem?_toList, h1, Option.map_some, Option.some.injEq] at h2
          subst h2; exact .a
      · cases hc
    · cases hc; exact key _ .a rfl
  | makeFunc fn first cap =>
    simp only [cmpL, Option.some.injEq] at hc; subst hc
    refine .of rfl ⟨_, rfl, .fn (by simp) (by simp) (fun i v x h1 h2 => ?_) fun i v x h1 h2 => ?_⟩
    all_goals
      simp only [Array.getElem?_map, List.getElem?_map, Array.getElem?_toList, Option.map_eq_some_iff] at h1 h2
      obtain ⟨p, hp1, rfl⟩ := h1
      obtain ⟨q, hq1, rfl⟩ := h2
      rw [hp1] at hq1; injection hq1 with hq1; subst hq1
      exact hR.ev p
  | makeInterface t x =>
    simp only [cmpL, cmpMkif] at hc
    split at hc <;> first | cases hc | skip
    next d hni hu =>
    refine .of rfl ⟨_, ?_, .ifc (hR.ev x)⟩
    simp only [Instr.makeInterface, Sem.run_bind, run_underlying' hu, Result.andThen_ok, Sem.run_pure]
  | slice t x lo hi mx =>
    cases mx with
    | some y =>
      simp only [cmpL, cmpSlZ, Option.isNone_some, Bool.false_eq_true, if_false] at hc
      split at hc <;> first | cases hc | skip
      next e hu =>
      split at hc
      rotate_left
      · cases lo with
        | some _ => cases hc
        | none =>
        cases hi with
        | none => cases hc
        | some h' =>
        simp only [Option.bind_eq_some_iff, Option.some.injEq] at hc
        obtain ⟨inf, hinf, rfl⟩ := hc
        obtain ⟨p1, p2, p3, p4, p5, p6⟩ := hp
        obtain ⟨rows, hx⟩ : ∃ rows, st.ev x = .view inf.size rows := by
          generalize st.ev x = z at p1
          cases z <;> simp only [V.isView] at p1
          subst p1; exact ⟨_, rfl⟩
        have hrx := hR.ev x
        rw [hx] at hrx p6
        simp only [V.slLen] at p6
        obtain ⟨hh, hhe⟩ := Int.eq_ofNat_of_zero_le p4
        obtain ⟨mm, hme⟩ := Int.eq_ofNat_of_zero_le (Int.le_trans p4 p5)
        rw [hhe, hme] at p5
        rw [hme] at p6
        obtain ⟨base, len, cap, e1, e2, r⟩ := hrx.view3 (hi := hh) (mx := mm) (by omega) (by omega)
        have hb1 : (Instr.sliceBound (a.eval y) cap .slice3Acap).run P w = .ok (st.ev y).num.toNat w := run_bound hR p3 (by omega) (by rw [hme]; simp; omega)
        have hb2 : (Instr.sliceBound (a.eval h') (st.ev y).num.toNat .slice3B).run P w = .ok (st.ev h').num.toNat w := run_bound hR p2 (by omega) (by rw [hhe, hme]; simp; omega)
        refine .of rfl ⟨_, ?_, by simp only [L.val, hx, V.rowsV, hhe, Int.toNat_natCast]; exact r⟩
        rw [e1]
        simp only [Instr.sliceAt, Instr.slice, Instr.sliceBounds, Sem.run_bind, run_underlying' hu, Result.andThen_ok, Option.map_none, Option.map_some, if_true, hb1, hb2, run_sizeOf' hinf, Sem.run_pure]
        simp [hhe, hme]
      next hz =>
      simp only [Bool.and_eq_true, Option.isNone_iff_eq_none] at hz
      obtain ⟨⟨rfl, hz1⟩, hz2⟩ := hz
      simp only [Option.bind_eq_some_iff, Option.some.injEq] at hc
      obtain ⟨inf, hinf, rfl⟩ := hc
      obtain ⟨p1, p2⟩ := hp
      obtain ⟨base, len, cap, e1, e2, e3, -⟩ := (hR.ev x).sl hk p1
      have zero : ∀ o : Option Operand, isZero o = true → ∃ k, o = some (.const (.int k 0)) := by
        intro o h
        unfold isZero at h
        split at h
        · rw [beq_iff_eq] at h; subst h; exact ⟨_, rfl⟩
        · cases h
      obtain ⟨k1, rfl⟩ := zero _ hz1
      obtain ⟨k2, hy⟩ := zero _ hz2
      injection hy with hy
      subst hy
      have hb : (Instr.sliceBounds true len cap none (some (.int k1 0)) (some (.int k2 0))).run P w = .ok (0, 0, 0) w := by
        simp [Instr.sliceBounds, Instr.sliceBound, asIntOf]
      refine .of rfl ⟨.slice base 0 0, ?_, .nul⟩
      rw [e1]
      simp only [Instr.sliceAt, Instr.slice, Sem.run_bind, run_underlying' hu, Result.andThen_ok, Option.map_none, Option.map_some, Act.eval, hb, run_sizeOf' hinf, Sem.run_pure]
      cases base <;> simp
    | none =>
    simp only [cmpL, cmpSl, Option.isNone_none, if_true] at hc
    split at hc <;> first | cases hc | skip
    · next hu =>
      obtain ⟨p1, p2, p3, p4, p5, p6⟩ := hp
      refine .of rfl ⟨_, ?_, .a⟩
      rw [(hR.ev x).of_str p1]
      have hb := run_sliceBounds (P := P) (sl := false) (len := (st.ev x).txt.size) (cap := (st.ev x).txt.size) (lo := lo) (hi := hi) hR (Nat.le_refl _) p2 p3 p4 p5 p6
      simp only [Instr.sliceAt, Instr.slice, Sem.run_bind, run_underlying' hu, Result.andThen_ok, Option.map_none, Option.isSome_none, Bool.false_eq_true, if_false, hb, Sem.run_pure]
    · next e hu =>
      simp only [Option.bind_eq_some_iff, Option.some.injEq] at hc
      obtain ⟨inf, hinf, rfl⟩ := hc
      obtain ⟨p1, p0, p2, p3, p4, p5, p6⟩ := hp
      obtain ⟨base, len, cap, e1, e2, e3, r⟩ := (hR.ev x).cut hk p1 (lo := (optN st 0 lo).toNat) (hi := (optN st (st.ev x).slLen hi).toNat) p0 (by omega) (by omega)
      refine .of rfl ⟨_, ?_, r⟩
      have hb := run_sliceBounds (P := P) (sl := true) (len := len) (cap := cap) (lo := lo) (hi := hi) hR e3 p2 p3 p4 (by rw [e2]; exact p5) (by rw [e2]; exact p6)
      rw [e2] at hb
      rw [e1]
      simp only [Instr.sliceAt, Instr.slice, Sem.run_bind, run_underlying' hu, Result.andThen_ok, Option.map_none, hb, run_sizeOf' hinf, Sem.run_pure]
  | build t parts =>
    simp only [cmpL, cmpBuild, Option.bind_eq_some_iff] at hc
    obtain ⟨i, hi, z, hz, hc⟩ := hc
    split at hc <;> first | cases hc | skip
    next hzone =>
    have hzone' : ∀ (i : Nat) (u : Value), z.cells[i]? = some u → u.oneCell' = true := by
      intro i u hu
      simp only [Bool.not_eq_true, Bool.not_eq_false', List.all_eq_true] at hzone
      exact hzone u (by simpa using Array.mem_of_getElem? hu)
    split at hc <;> first | cases hc | skip
    · next fs hu =>
      split at hc <;> first | cases hc | skip
      next hall =>
      simp only [Option.map_eq_some_iff] at hc
      obtain ⟨ps, hps, rfl⟩ := hc
      obtain ⟨m1, m2⟩ := mapM_some hps
      obtain ⟨pl, hpl, hpl2⟩ := run_mapM_places (P := P) (w := w) (fs := fs) fun j f hf => by
        have : ((P.info? f.type).isSome) = true := by
          have := hall
          simp only [Bool.not_eq_true, Bool.not_eq_false', List.all_eq_true, Array.mem_toList_iff] at this
          exact this f (Array.mem_of_getElem? hf)
        exact Option.isSome_iff_exists.1 this
      obtain ⟨vs, h1, h2, h3, h3'⟩ := run_fill (c := cx w.heap st.hp β F) (pl[·]?) (parts.toList.map fun p => (p.1, a.eval p.2)) (ps.map fun p => (p.1, p.2.1, st.ev p.2.2)) z.cells (z.cells.toList.map .a)
        (by simp) zero_cells (by simp [m1]) (fun j q p hq hp' => by
          simp only [List.getElem?_map, Option.map_eq_some_iff] at hq hp'
          obtain ⟨q0, hq0, rfl⟩ := hq
          obtain ⟨p0, hp0, rfl⟩ := hp'
          obtain ⟨y, hy, hfy⟩ := m2 j q0 hq0
          rw [hp0] at hy; injection hy with hy; subst hy
          simp only [Option.bind_eq_some_iff, Option.map_eq_some_iff] at hfy
          obtain ⟨f, hf, fi, hfi, rfl⟩ := hfy
          obtain ⟨g1, g2⟩ := hp _ (List.mem_of_getElem? hp0)
          obtain ⟨s1, s2, s3, s4⟩ := (hR.ev q0.2).sized hk g1
          exact ⟨hpl2 _ _ _ hf hfi, s1, s2, by simpa using g2, s3, s4⟩) hzone'
      refine .of rfl ⟨.agg vs, ?_, .agg h2 h3' h3⟩
      simp only [Instr.build, Sem.run_bind, run_zeroValue' hi hz, run_underlying' hu, Result.andThen_ok, hpl]
      have : (parts.map fun x => (x.1, a.eval x.2)).toList = parts.toList.map fun p => (p.1, a.eval p.2) := by simp
      rw [this, h1]
      rfl
    · next n e hu =>
      simp only [Option.bind_eq_some_iff, Option.some.injEq] at hc
      obtain ⟨ei, hei, rfl⟩ := hc
      obtain ⟨vs, h1, h2, h3, h3'⟩ := run_fill (c := cx w.heap st.hp β F) (fun i => some (i * ei.size, ei.size)) (parts.toList.map fun p => (p.1, a.eval p.2)) (parts.toList.map fun p => (p.1 * ei.size, ei.size, st.ev p.2)) z.cells (z.cells.toList.map .a)
        (by simp) zero_cells (by simp) (fun j q p hq hp' => by
          simp only [List.getElem?_map, Option.map_eq_some_iff] at hq hp'
          obtain ⟨q0, hq0, rfl⟩ := hq
          obtain ⟨p0, hp0, rfl⟩ := hp'
          rw [hq0] at hp0; injection hp0 with hp0; subst hp0
          obtain ⟨g1, g2⟩ := hp (q0.1 * ei.size, ei.size, q0.2) (List.mem_map.2 ⟨q0, List.mem_of_getElem? hq0, rfl⟩)
          obtain ⟨s1, s2, s3, s4⟩ := (hR.ev q0.2).sized hk g1
          exact ⟨rfl, s1, s2, by simpa using g2, s3, s4⟩) hzone'
      refine .of rfl ⟨.agg vs, ?_, .agg (by simpa [L.val, List.map_map, Function.comp_def] using h2) h3' (by simpa [L.val, List.map_map, Function.comp_def] using h3)⟩
      simp only [Instr.build, Sem.run_bind, run_zeroValue' hi hz, run_underlying' hu, Result.andThen_ok, run_sizeOf' hei]
      have : (parts.map fun x => (x.1, a.eval x.2)).toList = parts.toList.map fun p => (p.1, a.eval p.2) := by simp
      rw [this, h1]
      rfl
  | call c =>
    obtain ⟨callee, args, argTypes⟩ := c
    cases callee with
    | value f => simp [cmpL] at hc
    | invoke f n => simp [cmpL] at hc
    | builtin b =>
      cases b <;> simp only [cmpL, cmpBi, reduceCtorEq] at hc
      case len =>
        simp only [Option.bind_eq_some_iff, cmpLen] at hc
        obtain ⟨t, ht, x, hx, hc⟩ := hc
        have hx' : (args.map a.eval)[0]? = some (a.eval x) := by simp [hx]
        split at hc <;> first | cases hc | skip
        · next hu =>
          refine ⟨_, ?_, .a⟩
          simp only [execOp, resolve, invoke, builtin, Builtin.len_, Sem.run_bind, Sem.run_pure, Result.andThen_ok, ht, hx', run_underlying' hu, (hR.ev x).of_str hp]
          rfl
        · next e hu =>
          obtain ⟨base, len, cap, e1, e2, _⟩ := (hR.ev x).sl hk hp
          refine ⟨_, ?_, .a⟩
          simp only [execOp, resolve, invoke, builtin, Builtin.len_, Sem.run_bind, Sem.run_pure, Result.andThen_ok, ht, hx', run_underlying' hu, e1]
          rw [e2]; rfl
        · next n e hu =>
          refine ⟨_, ?_, .a⟩
          simp only [execOp, resolve, invoke, builtin, Builtin.len_, Sem.run_bind, Sem.run_pure, Result.andThen_ok, ht, hx', run_underlying' hu]
          rfl
        · next k e hu =>
          refine ⟨_, ?_, .a⟩
          have := run_len_map (P := P) (ty := ty) (ats := argTypes) (args := args.map a.eval) hk ht hx' hu (hR.ev x) hp
          simp only [execOp, resolve, invoke, builtin, Sem.run_bind, Sem.run_pure, Result.andThen_ok, this]
      case max =>
        simp only [Option.some.injEq] at hc; subst hc
        simp only [L.pre] at hp
        split at hp
        · next x rest e =>
          refine ⟨_, ?_, by simp only [L.val, e]; exact .a⟩
          have := run_foldMax (P := P) (mx := true) rest hR (st.ev x).kindOf (st.ev x).num hp.2
          simp only [if_true] at this
          simp only [execOp, resolve, invoke, builtin, Builtin.max_, Sem.run_bind, Sem.run_pure, Result.andThen_ok, Array.toList_map, e, List.map_cons, (hR.ev x).of_int hp.1, this]
        · exact hp.elim
      case min =>
        simp only [Option.some.injEq] at hc; subst hc
        simp only [L.pre] at hp
        split at hp
        · next x rest e =>
          refine ⟨_, ?_, by simp only [L.val, e]; exact .a⟩
          have := run_foldMax (P := P) (mx := false) rest hR (st.ev x).kindOf (st.ev x).num hp.2
          simp only [Bool.false_eq_true, if_false] at this
          simp only [execOp, resolve, invoke, builtin, Builtin.min_, Sem.run_bind, Sem.run_pure, Result.andThen_ok, Array.toList_map, e, List.map_cons, (hR.ev x).of_int hp.1, this]
        · exact hp.elim
  | _ => simp [cmpL] at hc

end
end Go.Abs

/- Memory that is made and written. -/
namespace Go.Abs
set_option linter.unusedVariables false

mutual
/-- The objects that a value names. -/
def V.ids : V → List Nat
  | .ptr id _ _ _ => [id]
  | .own id _ _ _ _ => [id]
  | .mp id => [id]
  | .agg cs => V.idsL cs
  | .tup cs => V.idsL cs
  | .fn _ fs cs => V.idsL fs ++ V.idsL cs
  | .ifc _ x => x.ids
  | _ => []
def V.idsL : List V → List Nat
  | [] => []
  | x :: l => x.ids ++ V.idsL l
end

theorem idsL_mem {l : List V} {i k : Nat} {x : V} (h : l[k]? = some x) (hi : i ∈ x.ids) : i ∈ V.idsL l := by
  induction l generalizing k with
  | nil => simp at h
  | cons y l ih =>
    simp only [V.idsL, List.mem_append]
    cases k with
    | zero => simp at h; subst h; exact .inl hi
    | succ k => exact .inr (ih h)

/-- Without other objects than those that it names. -/
theorem RV.onlyOf {c : Cx} {v : Value} {x : V} (h : RV c v x) (refs : List Nat) (hs : ∀ i ∈ x.ids, i ∈ refs) : RV (c.only refs) v x := by
  induction h with
  | any => exact .any
  | a => exact .a
  | ptr hl h => exact .ptr ⟨hs _ (by simp [V.ids]), hl⟩ h
  | own hl h => exact .own ⟨hs _ (by simp [V.ids]), hl⟩ h
  | ref g hb hs' hg hr ih =>
    refine .ref g hb hs' hg fun k x hk => ?_
    exact (hr k x hk).mono ⟨Nat.le_refl _, fun _ _ hn => ⟨rfl, hn⟩, fun _ hl => by simp [Cx.only] at hl, fun _ _ hl => by simp [Cx.only] at hl⟩
  | nilv => exact .nilv
  | view g hb hcap hlen hg hr ih =>
    refine .view g hb hcap hlen hg fun i row hi j x hj => ?_
    exact (hr i row hi j x hj).mono ⟨Nat.le_refl _, fun _ _ hn => ⟨rfl, hn⟩, fun _ hl => by simp [Cx.only] at hl, fun _ _ hl => by simp [Cx.only] at hl⟩
  | agg hl ho h ih => exact .agg hl ho fun i v x h1 h2 => ih i v x h1 h2 fun k hk => hs k (by simp only [V.ids]; exact idsL_mem h2 hk)
  | tup hl h ih => exact .tup hl fun i v x h1 h2 => ih i v x h1 h2 fun k hk => hs k (by simp only [V.ids]; exact idsL_mem h2 hk)
  | fn hl hl' h h' ih ih' =>
    exact .fn hl hl' (fun i v x h1 h2 => ih i v x h1 h2 fun k hk => hs k (by simp only [V.ids, List.mem_append]; exact .inl (idsL_mem h2 hk)))
      fun i v x h1 h2 => ih' i v x h1 h2 fun k hk => hs k (by simp only [V.ids, List.mem_append]; exact .inr (idsL_mem h2 hk))
  | mp hl h => exact .mp ⟨hs _ (by simp [V.ids]), hl⟩ h
  | mview hb hm hl hk hv ihk ihv =>
    have le : ∀ c : Cx, (c.only []).le ((c.only refs).only []) := fun c => ⟨Nat.le_refl _, fun _ _ hn => ⟨rfl, hn⟩, fun _ hl => by simp [Cx.only] at hl, fun _ _ hl => by simp [Cx.only] at hl⟩
    exact .mview hb hm hl (fun i e x he hx => (hk i e x he hx).mono (le _)) fun i e x he hx => (hv i e x he hx).mono (le _)
  | ifc h ih => exact .ifc (ih fun k hk => hs k (by simp only [V.ids]; exact hk))
  | nul => exact .nul

/-- From one heap in memory to a later one. -/
structure Adv (F : Nat → Prop) (w : World) (H : Heap) (β : Nat → Hd) (w' : World) (H' : Heap) (β' : Nat → Hd) : Prop where
  hok : HOK w'.heap H' β' F
  le : (cx w.heap H β F).le (cx w'.heap H' β' F)
  ext : WExt (owned H β) w w'

theorem Adv.own {F : Nat → Prop} {w w' : World} {H H' : Heap} {β β' : Nat → Hd} (h : Adv F w H β w' H' β') : ∀ b, owned H' β' b → owned H β b ∨ w.heap.size ≤ b := by
  intro b hb
  by_cases hlt : b < w.heap.size
  · refine .inl (Classical.byContradiction fun hn => ?_)
    have hF : ¬ F b := fun e => (h.hok.far b e).2 hb
    exact (h.le.same b hlt fun e => e.elim hn hF).2 (.inl hb)
  · exact .inr (by omega)

theorem Cx.le.trans {a b c : Cx} (h : a.le b) (k : b.le c) : a.le c := by
  refine ⟨Nat.le_trans h.size k.size, fun x hx hn => ?_, fun i hi => k.live i (h.live i hi), fun i h'' hi e => ?_⟩
  · obtain ⟨h1, h2⟩ := h.same x hx hn
    obtain ⟨k1, k2⟩ := k.same x (Nat.lt_of_lt_of_le hx h.size) h2
    exact ⟨k1.trans h1, k2⟩
  · rcases k.hd i h'' (h.live i hi) e with e1 | ⟨g, e1, hlt⟩
    · exact h.hd i h'' hi e1
    · rcases h.hd i g hi e1 with e2 | ⟨g2, e2, hlt2⟩
      · exact .inr ⟨g, e2, hlt⟩
      · exact .inr ⟨g2, e2, by omega⟩

theorem Cx.le.refl (c : Cx) : c.le c := ⟨Nat.le_refl _, fun _ _ hn => ⟨rfl, hn⟩, fun _ h => h, fun _ _ _ e => .inl e⟩

theorem Adv.trans {F : Nat → Prop} {w w' w'' : World} {H H' H'' : Heap} {β β' β'' : Nat → Hd} (h : Adv F w H β w' H' β') (k : Adv F w' H' β' w'' H'' β'') : Adv F w H β w'' H'' β'' :=
  ⟨k.hok, h.le.trans k.le, h.ext.trans k.ext h.own⟩

theorem Rel.adv {w w' : World} {β β' : Nat → Hd} {F : Nat → Prop} {N : Nat} {st : St} {a : Act} {H' : Heap} (h : Rel w β F N st a) (k : Adv F w st.hp β w' H' β') : Rel w' β' F N { st with hp := H' } a :=
  ⟨k.hok, fun t => (h.sl t).mono k.le, h.df, h.sz⟩

/-- A new row of cells. -/
theorem new_mem {w : World} {H : Heap} {β : Nat → Hd} {F : Nat → Prop} {id es : Nat} {refs : List Nat} {rows : List (List V)} {cs : Array Value} {E : TypeId} (hk : HOK w.heap H β F)
    (hid : H[id]? = some .res) (hsz : cs.size = rows.length * es) (hrow : ∀ (i : Nat) (row : List V), rows[i]? = some row → row.length = es)
    (hc : ∀ (i : Nat) (row : List V) (j : Nat) (x : V), rows[i]? = some row → row[j]? = some x → ∃ v, cs[i * es + j]? = some v ∧ v.oneCell' = true ∧ RV ((cx w.heap H β F).only refs) v x) :
    Adv F w H β { w with heap := w.heap.push (.cells cs E) } (H.set id (.mem false refs rows)) (upd β id ⟨w.heap.size, 0, rows.length, es, 0, false, 0, noSub⟩) := by
  have hnob : ∀ b, ¬ ownsB H β id b := fun b e => by unfold ownsB at e; rw [hid] at e; exact e
  obtain ⟨h1, h2, h3⟩ := hk.turn (hp' := w.heap.push (.cells cs E)) (o' := .mem false refs rows) (h' := ⟨w.heap.size, 0, rows.length, es, 0, false, 0, noSub⟩) hid (by simp)
    (fun b hb _ => by rw [Array.getElem?_push_lt hb]; exact (Array.getElem?_eq_getElem hb).symm)
    (fun b hb => by
      unfold ownsB at hb
      rw [get_set hid] at hb
      obtain ⟨_, hb⟩ := hb
      rw [upd_same] at hb
      exact .inr (by simp at hb; omega))
    (by simp) (fun g' _ e => by simp at e)
    (fun hle => by
      refine .inr ⟨rfl, by simp, by simp, hrow, by simp, cs, E, (0, 0), ?_, by simp, by simp [hsz], fun i row hi _ j x hj => ?_⟩
      · show (w.heap.push (.cells cs E))[w.heap.size]? = _
        simp
      · obtain ⟨v, e1, e2, e3⟩ := hc i row j x hi hj
        exact ⟨v, by simpa using e1, e2, e3.mono (hle.only refs)⟩)
  exact ⟨h1, h2, ⟨rfl, rfl, rfl, by simp, fun b hb _ => by
    show (w.heap.push (.cells cs E))[b]? = _
    rw [Array.getElem?_push_lt hb]; exact (Array.getElem?_eq_getElem hb).symm⟩⟩

def setFrom (cs : Array Value) (k : Nat) : List Value → Array Value
  | [] => cs
  | v :: vs => setFrom (cs.setIfInBounds k v) (k + 1) vs

theorem setFrom_size (vs : List Value) : ∀ (cs : Array Value) (k : Nat), (setFrom cs k vs).size = cs.size := by
  induction vs with
  | nil => intro cs k; rfl
  | cons v vs ih => intro cs k; simp [setFrom, ih]

theorem setFrom_get (vs : List Value) : ∀ (cs : Array Value) (k m : Nat), k + vs.length ≤ cs.size → (setFrom cs k vs)[m]? = if k ≤ m ∧ m < k + vs.length then vs[m - k]? else cs[m]? := by
  induction vs with
  | nil => intro cs k m h; simp only [setFrom, List.length_nil, Nat.add_zero]; rw [if_neg (by omega)]
  | cons v vs ih =>
    intro cs k m h
    simp only [setFrom, List.length_cons] at h ⊢
    rw [ih _ _ _ (by simp; omega)]
    by_cases h1 : k + 1 ≤ m ∧ m < k + 1 + vs.length
    · rw [if_pos h1, if_pos (by omega), show m - k = (m - (k + 1)) + 1 from by omega]; rfl
    · rw [if_neg h1, Array.getElem?_setIfInBounds]
      by_cases h2 : k = m
      · subst h2; rw [if_pos rfl, if_pos (by omega), if_pos (by omega), Nat.sub_self]; rfl
      · rw [if_neg h2, if_neg (by omega)]

theorem run_storeCells {P : Program} {b o : Nat} {E : TypeId} (vs : List Value) : ∀ (w : World) (cs : Array Value) (i : Nat), w.heap[b]? = some (.cells cs E (0, 0)) → o + i + vs.length ≤ cs.size →
    (∀ v ∈ vs, v.oneCell' = true) →
    (storeCells ⟨b, o, none⟩ vs i).run P w = .ok () { w with heap := w.heap.setIfInBounds b (.cells (setFrom cs (o + i) vs) E (0, 0)) } := by
  induction vs with
  | nil =>
    intro w cs i hb hn _
    simp only [storeCells, Sem.run_pure, setFrom]
    have : w.heap.setIfInBounds b (.cells cs E (0, 0)) = w.heap := by
      apply Array.ext_getElem?
      intro k
      rw [Array.getElem?_setIfInBounds]
      split
      · next h => subst h; rw [if_pos (hp_lt hb), hb]
      · rfl
    rw [this]
  | cons v vs ih =>
    intro w cs i hb hn ho
    simp only [List.length_cons] at hn
    simp only [storeCells, Sem.run_bind, addr_add]
    rw [run_store _ _ _ _ _ (ho v (by simp)), cell?_look]
    have hl : look w.heap b (o + i) = some cs[o + i] := by unfold look; rw [hb]; exact Array.getElem?_eq_getElem (by omega)
    rw [hl]
    have hf : w.frozen? ⟨b, o + i, none⟩ = false := by unfold World.frozen?; rw [hb]; simp
    simp only [hf, Bool.false_eq_true, if_false, Result.andThen_ok]
    have hw : (w.setCell ⟨b, o + i, none⟩ v) = { w with heap := w.heap.setIfInBounds b (.cells (cs.setIfInBounds (o + i) v) E (0, 0)) } := by
      unfold World.setCell
      congr 1
      apply Array.ext_getElem?
      intro k
      rw [Array.getElem?_modify, Array.getElem?_setIfInBounds]
      split
      · next h => subst h; rw [if_pos (hp_lt hb), hb]; simp
      · rfl
    rw [hw, ih _ (cs.setIfInBounds (o + i) v) (i + 1) (by simp [hp_lt hb]) (by simp; omega) fun u hu => ho u (by simp [hu])]
    simp only [setFrom, Nat.add_assoc, Array.setIfInBounds_setIfInBounds]

def addRefs (refs : List Nat) : List Nat → List Nat
  | [] => refs
  | i :: l => addRefs (if i ∈ refs then refs else refs ++ [i]) l

theorem addRefs_left {i : Nat} (l : List Nat) : ∀ refs, i ∈ refs → i ∈ addRefs refs l := by
  induction l with
  | nil => intro refs h; exact h
  | cons k l ih => intro refs h; exact ih _ (by split; exact h; exact List.mem_append_left _ h)

theorem addRefs_right {i : Nat} (l : List Nat) : ∀ refs, i ∈ l → i ∈ addRefs refs l := by
  induction l with
  | nil => intro refs h; simp at h
  | cons k l ih =>
    intro refs h
    rcases List.mem_cons.1 h with rfl | h
    · refine addRefs_left l _ ?_
      split
      · assumption
      · simp
    · exact ih _ h

/-- A row with cells laid over from j on. -/
def rowSet (row : List V) (j : Nat) (xs : List V) : List V := row.take j ++ xs ++ row.drop (j + xs.length)

theorem rowSet_length {row : List V} {j : Nat} {xs : List V} (h : j + xs.length ≤ row.length) : (rowSet row j xs).length = row.length := by
  simp [rowSet]; omega

theorem rowSet_get {row : List V} {j : Nat} {xs : List V} (h : j + xs.length ≤ row.length) (k : Nat) : (rowSet row j xs)[k]? = if j ≤ k ∧ k < j + xs.length then xs[k - j]? else row[k]? := by
  simp only [rowSet, List.append_assoc]
  rw [List.getElem?_append]
  simp only [List.length_take, show min j row.length = j from by omega]
  by_cases h1 : k < j
  · rw [if_pos h1, if_neg (by omega), List.getElem?_take, if_pos h1]
  · rw [if_neg h1, List.getElem?_append]
    by_cases h2 : k - j < xs.length
    · rw [if_pos h2, if_pos (by omega)]
    · rw [if_neg h2, if_neg (by omega), List.getElem?_drop]
      congr 1; omega

theorem Cx.only_mono {c : Cx} {r r' : List Nat} (h : ∀ i ∈ r, i ∈ r') : (c.only r).le (c.only r') :=
  ⟨Nat.le_refl _, fun _ _ hn => ⟨rfl, hn⟩, fun _ hl => ⟨h _ hl.1, hl.2⟩, fun _ _ _ e => .inl e⟩

/-- Cells are written. -/
theorem wr_mem {P : Program} {w : World} {H : Heap} {β : Nat → Hd} {F : Nat → Prop} {id i j : Nat} {refs : List Nat} {rows : List (List V)} {row xs : List V} {vs : List Value} (hk : HOK w.heap H β F)
    (hid : H[id]? = some (.mem false refs rows)) (hi : rows[i]? = some row) (hlo : (β id).lo ≤ i) (hj : j + xs.length ≤ row.length) (hvs : vs.length = xs.length) (hone : ∀ v ∈ vs, v.oneCell' = true)
    (hr : ∀ (k : Nat) (v : Value) (x : V), vs[k]? = some v → xs[k]? = some x → RV (cx w.heap H β F) v x) :
    ∃ w', (storeCells ⟨(β id).b, (β id).o + (i - (β id).lo) * (β id).es + j, none⟩ vs).run P w = .ok () w' ∧
      Adv F w H β w' (H.set id (.mem false (addRefs refs (V.idsL xs)) (rows.set i (rowSet row j xs)))) β := by
  rcases hk.ro id _ hid with hro | ⟨q1, q2, q3, q4, q5, cs, E, fr, q6, q7, q8, q9⟩
  · rw [hro.2.1] at hi; simp at hi
  obtain rfl := q7 rfl
  have hil : i < rows.length := lt_of_get hi
  have hes := q4 i row hi
  have hoff : (β id).o + (i - (β id).lo) * (β id).es + j + vs.length ≤ cs.size := by
    have h1 : i - (β id).lo + 1 ≤ (β id).cap := by omega
    have h2 : (i - (β id).lo + 1) * (β id).es ≤ (β id).cap * (β id).es := Nat.mul_le_mul_right _ h1
    rw [Nat.add_mul] at h2
    omega
  have hbs : (β id).b < w.heap.size := hp_lt q6
  refine ⟨_, run_storeCells (P := P) vs w cs 0 q6 (by simpa using hoff) hone, ?_⟩
  have hown : ∀ b, ownsB H β id b ↔ (β id).b = b := fun b => by unfold ownsB; rw [hid]; simp [q1]
  have hupd : upd β id (β id) = β := by funext k; unfold upd; split <;> simp_all
  obtain ⟨h1, h2, h3⟩ := hk.turn (hp' := w.heap.setIfInBounds (β id).b (.cells (setFrom cs ((β id).o + (i - (β id).lo) * (β id).es + j + 0) vs) E (0, 0)))
    (o' := .mem false (addRefs refs (V.idsL xs)) (rows.set i (rowSet row j xs))) (h' := β id) hid (by simp)
    (fun b hb hn => by rw [Array.getElem?_setIfInBounds, if_neg fun e => hn ((hown b).2 e)])
    (fun b hb => by
      unfold ownsB at hb
      rw [get_set hid, upd_same] at hb
      exact .inl ((hown b).2 hb.2))
    (by simp) (fun g' hg _ => by
      left
      unfold hdOf at hg ⊢
      rw [get_set hid, upd_same] at hg
      rw [hid]
      simpa using hg)
    (fun hle => by
      refine .inr ⟨q1, by simpa using q2, by simpa using q3, fun k r hk' => ?_, by simp, setFrom cs ((β id).o + (i - (β id).lo) * (β id).es + j + 0) vs, E, (0, 0), ?_, by simp, by rw [setFrom_size]; exact q8, fun k r hk' hlok m x hm => ?_⟩
      · rw [List.getElem?_set] at hk'
        split at hk'
        · next e =>
          subst e
          injection hk' with hk'
          rw [← hk', rowSet_length hj]; exact hes
        · exact q4 k r hk'
      · show (w.heap.setIfInBounds _ _)[(β id).b]? = _
        rw [Array.getElem?_setIfInBounds, if_pos rfl, if_pos hbs]
      · rw [setFrom_get _ _ _ _ (by simpa using hoff), Nat.add_zero]
        rw [List.getElem?_set] at hk'
        have up : ∀ {v : Value} {y : V}, RV ((cx w.heap H β F).only refs) v y → RV ((cx (w.heap.setIfInBounds (β id).b (.cells (setFrom cs ((β id).o + (i - (β id).lo) * (β id).es + j + 0) vs) E (0, 0))) (H.set id (.mem false (addRefs refs (V.idsL xs)) (rows.set i (rowSet row j xs)))) (upd β id (β id)) F).only (addRefs refs (V.idsL xs))) v y :=
          fun hv => (hv.mono (Cx.only_mono fun i hi => addRefs_left _ _ hi)).mono (hle.only _)
        split at hk'
        · next e =>
          subst e
          injection hk' with hk'
          subst hk'
          rw [rowSet_get hj] at hm
          by_cases hin : j ≤ m ∧ m < j + xs.length
          · rw [if_pos hin] at hm
            rw [if_pos (by omega), show (β id).o + (i - (β id).lo) * (β id).es + m - ((β id).o + (i - (β id).lo) * (β id).es + j) = m - j from by omega]
            have hv : vs[m - j]? = some vs[m - j] := List.getElem?_eq_getElem (by omega)
            refine ⟨_, hv, hone _ (List.mem_of_getElem? hv), ?_⟩
            exact ((hr _ _ _ hv hm).onlyOf _ fun q hq => addRefs_right _ _ (idsL_mem hm hq)).mono (hle.only _)
          · rw [if_neg hin] at hm
            rw [if_neg (by omega)]
            obtain ⟨v, e1, e2, e3⟩ := q9 i row hi hlo m x hm
            exact ⟨v, e1, e2, up e3⟩
        · next e =>
          have hml : m < (β id).es := by rw [← q4 k r hk']; exact lt_of_get hm
          have hout : ¬ ((β id).o + (i - (β id).lo) * (β id).es + j ≤ (β id).o + (k - (β id).lo) * (β id).es + m ∧ (β id).o + (k - (β id).lo) * (β id).es + m < (β id).o + (i - (β id).lo) * (β id).es + j + vs.length) := by
            intro ⟨a1, a2⟩
            rcases Nat.lt_or_gt_of_ne e with e | e
            · have h1 : i - (β id).lo + 1 ≤ k - (β id).lo := by omega
              have h2 : (i - (β id).lo + 1) * (β id).es ≤ (k - (β id).lo) * (β id).es := Nat.mul_le_mul_right _ h1
              rw [Nat.add_mul] at h2
              omega
            · have h1 : k - (β id).lo + 1 ≤ i - (β id).lo := by omega
              have h2 : (k - (β id).lo + 1) * (β id).es ≤ (i - (β id).lo) * (β id).es := Nat.mul_le_mul_right _ h1
              rw [Nat.add_mul] at h2
              omega
          rw [if_neg hout]
          obtain ⟨v, e1, e2, e3⟩ := q9 k r hk' hlok m x hm
          exact ⟨v, e1, e2, up e3⟩)
  rw [hupd] at h1 h2
  exact ⟨h1, h2, ⟨rfl, rfl, rfl, by simp, fun b hb hn => by
    show (w.heap.setIfInBounds _ _)[b]? = _
    rw [Array.getElem?_setIfInBounds, if_neg fun e => hn ⟨id, (hown b).2 e⟩]⟩⟩

end Go.Abs

/- Freezing: what is owned becomes what is only read. -/
namespace Go.Abs
set_option linter.unusedVariables false

def O.refs : O → List Nat
  | .mem _ refs _ => refs
  | .map _ refs _ => refs
  | .tree refs _ => refs
  | _ => []

/-- It is not written any more. -/
def O.fz : O → O
  | .mem _ refs rows => .mem true refs rows
  | .map _ refs es => .map true refs es
  | .sit _ _ => .dead
  | o => o

mutual
/-- A value without owned parts. -/
def V.fz (H : Heap) : V → V
  | .own id es off len _ => .view es (((H.getD id .dead).rows.drop off).take len)
  | .ptr id _ i j => .ref ((H.getD id .dead).rows.getD i []) j
  | .mp id => .mview (H.getD id .dead).ents
  | .agg cs => .agg (V.fzL H cs)
  | .tup cs => .tup (V.fzL H cs)
  | .fn f fs cs => .fn f (V.fzL H fs) (V.fzL H cs)
  | .ifc t x => .ifc t (x.fz H)
  | x => x
def V.fzL (H : Heap) : List V → List V
  | [] => []
  | x :: l => x.fz H :: V.fzL H l
end

mutual
/-- May it be frozen? -/
def V.fzP (H : Heap) : V → Prop
  | .own id _ _ _ tot => (H.getD id .dead).isMem = true ∧ (H.getD id .dead).rows.length = tot ∧ (H.getD id .dead).refs = []
  | .ptr id tot i _ => (H.getD id .dead).isMem = true ∧ (H.getD id .dead).rows.length = tot ∧ (H.getD id .dead).refs = [] ∧ i < tot
  | .mp id => (H.getD id .dead).isMap = true ∧ (H.getD id .dead).refs = []
  | .agg cs => V.fzPL H cs
  | .tup cs => V.fzPL H cs
  | .fn _ fs cs => V.fzPL H fs ∧ V.fzPL H cs
  | .ifc _ x => x.fzP H
  | _ => True
def V.fzPL (H : Heap) : List V → Prop
  | [] => True
  | x :: l => x.fzP H ∧ V.fzPL H l
end

theorem fzL_length (H : Heap) (l : List V) : (V.fzL H l).length = l.length := by induction l <;> simp_all [V.fzL]

theorem fzL_get {H : Heap} {l : List V} {i : Nat} : (V.fzL H l)[i]? = (l[i]?).map (V.fz H) := by
  induction l generalizing i with
  | nil => simp [V.fzL]
  | cons x l ih => cases i <;> simp [V.fzL, ih]

theorem fzPL_get {H : Heap} {l : List V} {i : Nat} {x : V} (h : V.fzPL H l) (hx : l[i]? = some x) : x.fzP H := by
  induction l generalizing i with
  | nil => simp at hx
  | cons y l ih =>
    cases i with
    | zero => simp at hx; subst hx; exact h.1
    | succ i => exact ih h.2 hx

def Heap.fz (H : Heap) : List Nat → Heap
  | [] => H
  | i :: l => Heap.fz (H.set i ((H.getD i .dead).fz)) l

section
variable {w : World} {H : Heap} {β : Nat → Hd} {F : Nat → Prop}

/-- One object is frozen. -/
theorem adv_fz (hk : HOK w.heap H β F) (id : Nat) : Adv F w H β w (H.set id ((H.getD id .dead).fz)) β := by
  cases hid : H[id]? with
  | none =>
    rw [List.set_eq_of_length_le (by simpa using List.getElem?_eq_none_iff.1 hid)]
    exact ⟨hk, .refl _, .refl _ _⟩
  | some o =>
    rw [getD_some hid]
    have hupd : upd β id (β id) = β := by funext k; unfold upd; split <;> simp_all
    by_cases hres : o = .res
    · subst hres
      have : H.set id O.res.fz = H := by
        apply List.ext_getElem?
        intro k
        rw [List.getElem?_set]
        split
        · next e => subst e; simp only [lt_of_get hid, if_true, hid]; rfl
        · rfl
      rw [this]
      exact ⟨hk, .refl _, .refl _ _⟩
    by_cases htree : ∃ refs rows, o = .tree refs rows
    · obtain ⟨refs, rows, rfl⟩ := htree
      have : H.set id (O.tree refs rows).fz = H := by
        apply List.ext_getElem?
        intro k
        rw [List.getElem?_set]
        split
        · next e => subst e; simp only [lt_of_get hid, if_true, hid]; rfl
        · rfl
      rw [this]
      exact ⟨hk, .refl _, .refl _ _⟩
    have hnb : ∀ b, ownsB (H.set id o.fz) (upd β id (β id)) id b → False := by
      intro b hb
      unfold ownsB at hb
      rw [get_set hid] at hb
      cases o <;> first | exact hb | exact htree ⟨_, _, rfl⟩
    obtain ⟨h1, h2, h3⟩ := hk.turn (hp' := w.heap) (o' := o.fz) (h' := β id) hid (Nat.le_refl _) (fun _ _ _ => rfl) (fun b hb => (hnb b hb).elim)
      (by cases o <;> simp_all [O.fz]) (fun g' hg _ => by
        left
        unfold hdOf at hg ⊢
        rw [get_set hid, upd_same] at hg
        rw [hid]
        cases o <;> first | exact hg | cases hg | exact absurd ⟨_, _, rfl⟩ htree)
      (fun hle => by
        have hr := hk.ro id o hid
        have hself : ∀ {b : Nat}, (∀ fz refs rows, o = .mem fz refs rows → (β id).b = b) → (∀ fz refs es, o = .map fz refs es → (β id).b = b) → (fun b => owned H β b ∨ F b) b → True := fun _ _ _ => trivial
        cases o with
        | res => trivial
        | dead => trivial
        | sit s pos => trivial
        | tree refs rows => exact absurd ⟨_, _, rfl⟩ htree
        | mem fz refs rows =>
          rcases hr with hr | ⟨q1, q2, q3, q4, q5, cs, E, fr, q6, q7, q8, q9⟩
          · exact .inl hr
          · refine .inr ⟨q1, q2, q3, q4, fun _ e => ?_, cs, E, fr, q6, by simp, q8, fun i row hi hlo j x hj => ?_⟩
            · rcases e with ⟨k, e⟩ | e
              · by_cases hki : k = id
                · subst hki; exact hnb _ e
                · have e' := (ownsB_set_ne hki).1 e
                  cases fz with
                  | true => exact q5 rfl (.inl ⟨k, e'⟩)
                  | false => exact hki (hk.one _ _ _ e' (by unfold ownsB; rw [hid]; exact ⟨q1, rfl⟩))
              · cases fz with
                | true => exact q5 rfl (.inr e)
                | false => exact (hk.far _ e).2 ⟨id, by unfold ownsB; rw [hid]; exact ⟨q1, rfl⟩⟩
            · obtain ⟨v, e1, e2, e3⟩ := q9 i row hi hlo j x hj
              exact ⟨v, e1, e2, e3.mono (hle.only refs)⟩
        | map fz refs es =>
          obtain ⟨q1, ents, clock, q2, q3, q4, q5, q6⟩ := hr
          refine ⟨fun _ e => ?_, ents, clock, q2, q3, q4, q5, fun i e x he hx => ?_⟩
          · rcases e with ⟨k, e⟩ | e
            · by_cases hki : k = id
              · subst hki; exact hnb _ e
              · have e' := (ownsB_set_ne hki).1 e
                cases fz with
                | true => exact q1 rfl (.inl ⟨k, e'⟩)
                | false => exact hki (hk.one _ _ _ e' (by unfold ownsB; rw [hid]))
            · cases fz with
              | true => exact q1 rfl (.inr e)
              | false => exact (hk.far _ e).2 ⟨id, by unfold ownsB; rw [hid]⟩
          · exact ⟨(q6 i e x he hx).1.mono (hle.only []), (q6 i e x he hx).2.mono (hle.only refs)⟩)
    rw [hupd] at h1 h2
    exact ⟨h1, h2, .refl _ _⟩

theorem adv_fzL (l : List Nat) : ∀ {H : Heap}, HOK w.heap H β F → Adv F w H β w (H.fz l) β := by
  induction l with
  | nil => intro H hk; exact ⟨hk, .refl _, .refl _ _⟩
  | cons i l ih => intro H hk; exact (adv_fz hk i).trans (ih (adv_fz hk i).hok)

theorem fz_idem (o : O) : o.fz.fz = o.fz := by cases o <;> rfl

theorem Heap.fz_get (l : List Nat) : ∀ (H : Heap) (k : Nat), (H.fz l)[k]? = (H[k]?).map fun o => if k ∈ l then o.fz else o := by
  induction l with
  | nil => intro H k; simp [Heap.fz]
  | cons i l ih =>
    intro H k
    simp only [Heap.fz]
    rw [ih]
    by_cases hki : k = i
    · subst hki
      cases hk : H[k]? with
      | none => rw [List.set_eq_of_length_le (by simpa using List.getElem?_eq_none_iff.1 hk), hk]; simp
      | some o => rw [get_set hk, getD_some hk]; simp [fz_idem]
    · rw [getElem?_set_ne' hki]; simp [hki]

theorem mem_get' {id : Nat} (h : (H.getD id .dead).isMem = true) : ∃ fz refs rows, H[id]? = some (.mem fz refs rows) ∧ H.getD id .dead = .mem fz refs rows := by
  cases hid : H[id]? with
  | none => simp [List.getD, hid, O.isMem] at h
  | some o =>
    have hgd : H.getD id .dead = o := getD_some hid
    rw [hgd] at h ⊢
    cases o with
    | mem fz refs rows => exact ⟨_, _, _, rfl, rfl⟩
    | _ => simp [O.isMem] at h

theorem map_get' {id : Nat} (h : (H.getD id .dead).isMap = true) : ∃ fz refs es, H[id]? = some (.map fz refs es) ∧ H.getD id .dead = .map fz refs es := by
  cases hid : H[id]? with
  | none => simp [List.getD, hid, O.isMap] at h
  | some o =>
    have hgd : H.getD id .dead = o := getD_some hid
    rw [hgd] at h ⊢
    cases o with
    | map fz refs rows => exact ⟨_, _, _, rfl, rfl⟩
    | _ => simp [O.isMap] at h

theorem RV.strip {c : Cx} {v : Value} {x : V} (h : RV (c.only []) v x) {c' : Cx} (hs : c.hp.size ≤ c'.hp.size) (hb : ∀ b, b < c.hp.size → ¬ c.own b → c'.hp[b]? = c.hp[b]? ∧ ¬ c'.own b) : RV (c'.only []) v x :=
  h.mono ⟨hs, hb, fun _ hl => by simp [Cx.only] at hl, fun _ _ hl => by simp [Cx.only] at hl⟩

/-- The frozen value, in the frozen heap. -/
theorem RV.fz {l : List Nat} (hk : HOK w.heap H β F) {c : Cx} {v : Value} {x : V} (hr : RV c v x) (hc : c = cx w.heap H β F) (hp : x.fzP H) (hl : ∀ i ∈ x.ids, i ∈ l) :
    RV ((cx w.heap (H.fz l) β F).only []) v (x.fz H) := by
  have adv := adv_fzL (F := F) (w := w) (β := β) l hk
  have hle := adv.le
  have hk' := adv.hok
  induction hr with
  | any => exact .any
  | a => exact .a
  | ptr hlv h =>
    rename_i id tot i j
    subst hc
    obtain ⟨h1, h2, h3, h4⟩ := hp
    obtain ⟨fz, refs, rows, hid, hgd⟩ := mem_get' h1
    simp only [V.fz]
    rw [hgd] at h2 h3 ⊢
    simp only [O.rows, O.refs] at h2 h3 ⊢
    subst h3
    have hid' : (H.fz l)[id]? = some (.mem true [] rows) := by
      rw [Heap.fz_get, hid]; simp [hl id (by simp [V.ids]), O.fz]
    obtain ⟨g1, g2⟩ := h ((β id).wt rows.length) (by show hdOf H β id = _; simp [hdOf, hid])
    obtain ⟨g3, g4, rfl⟩ := g2 h2
    rcases hk'.ro id _ hid' with hr | ⟨q1, q2, q3, q4, q5, cs, E, fr, q6, q7, q8, q9⟩
    · have g4' : (β id).nil = false := g4
      rw [hr.1] at g4'; cases g4'
    · have hi : rows[i]? = some (rows.getD i []) := get_of_getD (by omega)
      have key : ∀ (k : Nat) (y : V), (rows.getD i [])[k]? = some y → ∃ u, look w.heap (β id).b ((β id).o + (i - (β id).lo) * (β id).es + k) = some u ∧ u.oneCell' = true ∧ RV ((cx w.heap (H.fz l) β F).only []) u y := by
        intro k y hy
        obtain ⟨u, e1, e2, e3⟩ := q9 i _ hi g3 k y hy
        refine ⟨u, ?_, e2, e3⟩
        unfold look
        have q6' : w.heap[(β id).b]? = some (.cells cs E fr) := q6
        rw [q6']; exact e1
      refine .ref (fun k => (look w.heap (β id).b ((β id).o + (i - (β id).lo) * (β id).es + k)).getD default) (q5 rfl) (hp_lt q6) (fun k y hy => ?_) fun k y hy => ?_
      · obtain ⟨u, e1, e2, e3⟩ := key k y hy
        show look w.heap (β id).b ((β id).o + (i - (β id).lo) * (β id).es + k) = _ ∧ _
        rw [e1]; exact ⟨rfl, e2⟩
      · obtain ⟨u, e1, e2, e3⟩ := key k y hy
        rw [e1]
        exact e3.mono ⟨Nat.le_refl _, fun _ _ hn => ⟨rfl, hn⟩, fun _ hl => by simp [Cx.only] at hl, fun _ _ hl => by simp [Cx.only] at hl⟩
  | own hlv h =>
    rename_i id es off len tot
    subst hc
    obtain ⟨h1, h2, h3⟩ := hp
    obtain ⟨fz, refs, rows, hid, hgd⟩ := mem_get' h1
    simp only [V.fz]
    rw [hgd] at h2 h3 ⊢
    simp only [O.rows, O.refs] at h2 h3 ⊢
    subst h3
    have hid' : (H.fz l)[id]? = some (.mem true [] rows) := by
      rw [Heap.fz_get, hid]; simp [hl id (by simp [V.ids]), O.fz]
    obtain ⟨g1, g2⟩ := h ((β id).wt rows.length) (by show hdOf H β id = _; simp [hdOf, hid])
    obtain ⟨g3, g4, g5⟩ := g2 h2
    have g3' : (β id).lo ≤ off := g3
    have g4' : (β id).es = es := g4
    rcases g5 with ⟨g6, ⟨ad, rfl⟩, rfl⟩ | ⟨g6, ad, rfl, g7, g8⟩
    · simp only [List.take_zero]
      cases ad with
      | none => exact .nilv
      | some ad => exact RV.view (rows := []) (fun _ _ => undef) (fun h => absurd rfl h) (Nat.zero_le _) (by simp) (by simp) (by simp)
    · have g7' : off + len ≤ rows.length := g7
      rcases hk'.ro id _ hid' with hr | ⟨q1, q2, q3, q4, q5, cs, E, fr, q6, q7, q8, q9⟩
      · have g6' : (β id).nil = false := g6
        rw [hr.1] at g6'; cases g6'
      · have hlen : ((rows.drop off).take len).length = len := by simp; omega
        have hget : ∀ (i : Nat) (row : List V), ((rows.drop off).take len)[i]? = some row → rows[off + i]? = some row := by
          intro i row h
          rw [List.getElem?_take] at h
          split at h
          · rw [List.getElem?_drop] at h; exact h
          · cases h
        have key : ∀ (i : Nat) (row : List V), ((rows.drop off).take len)[i]? = some row → ∀ (k : Nat) (y : V), row[k]? = some y →
            ∃ u, look w.heap (β id).b ((β id).o + (off - (β id).lo) * es + i * es + k) = some u ∧ u.oneCell' = true ∧ RV ((cx w.heap (H.fz l) β F).only []) u y := by
          intro i row hi k y hy
          obtain ⟨u, e1, e2, e3⟩ := q9 _ _ (hget i row hi) (by omega) k y hy
          refine ⟨u, ?_, e2, e3⟩
          unfold look
          have q6' : w.heap[(β id).b]? = some (.cells cs E fr) := q6
          rw [q6']
          rw [g4', show off + i - (β id).lo = (off - (β id).lo) + i from by omega, Nat.add_mul, ← Nat.add_assoc] at e1
          exact e1
        have had : (rows.drop off).take len ≠ [] → ad = ⟨(β id).b, (β id).o + (off - (β id).lo) * es, none⟩ := by
          intro hne
          have : 0 < len := by rw [← hlen]; exact List.length_pos_iff.2 hne
          have h9 := g8 (by show off - (β id).lo < (β id).cap; omega)
          rw [h9]
          show (⟨(β id).b, (β id).o + (off - (β id).lo) * (β id).es, none⟩ : Addr) = _
          rw [g4']
        have := RV.view (c := (cx w.heap (H.fz l) β F).only []) (es := es) (rows := (rows.drop off).take len) (ad := ad) (cap := (β id).cap - (off - (β id).lo))
          (fun i k => (look w.heap (β id).b ((β id).o + (off - (β id).lo) * es + i * es + k)).getD default)
          (fun hne => by rw [had hne]; exact ⟨q5 rfl, hp_lt q6, rfl⟩) (by rw [hlen]; omega) (fun i row hi => by rw [← g4']; exact q4 _ _ (hget i row hi)) (fun i row hi k y hy => by
            obtain ⟨u, e1, e2, e3⟩ := key i row hi k y hy
            rw [had (by intro e; rw [e] at hi; simp at hi)]
            show look w.heap (β id).b _ = _ ∧ _
            rw [e1]; exact ⟨rfl, e2⟩) (fun i row hi k y hy => by
            obtain ⟨u, e1, e2, e3⟩ := key i row hi k y hy
            rw [e1]
            exact e3.mono ⟨Nat.le_refl _, fun _ _ hn => ⟨rfl, hn⟩, fun _ hl => by simp [Cx.only] at hl, fun _ _ hl => by simp [Cx.only] at hl⟩)
        rw [hlen] at this
        exact this
  | ref g hb hs hg hr ih =>
    subst hc
    refine .ref g (hle.same _ hs hb).2 hs hg fun k x hk => ?_
    exact (hr k x hk).strip (Nat.le_refl _) fun b hb hn => hle.same b hb hn
  | nilv => exact .nilv
  | view g hb hcap hlen hg hr ih =>
    subst hc
    refine .view g (fun hne => ?_) hcap hlen hg fun i row hi j x hj => ?_
    · obtain ⟨q1, q2, q3⟩ := hb hne
      exact ⟨(hle.same _ q2 q1).2, q2, q3⟩
    · exact (hr i row hi j x hj).strip (Nat.le_refl _) fun b hb hn => hle.same b hb hn
  | agg hl' ho h ih =>
    refine .agg (by rw [fzL_length]; exact hl') ho fun i v x h1 h2 => ?_
    rw [fzL_get] at h2
    simp only [Option.map_eq_some_iff] at h2
    obtain ⟨y, hy, rfl⟩ := h2
    exact ih i v y h1 hy hc (fzPL_get hp hy) fun k hk => hl k (by simp only [V.ids]; exact idsL_mem hy hk)
  | tup hl' h ih =>
    refine .tup (by rw [fzL_length]; exact hl') fun i v x h1 h2 => ?_
    rw [fzL_get] at h2
    simp only [Option.map_eq_some_iff] at h2
    obtain ⟨y, hy, rfl⟩ := h2
    exact ih i v y h1 hy hc (fzPL_get hp hy) fun k hk => hl k (by simp only [V.ids]; exact idsL_mem hy hk)
  | fn hl' hl'' h h' ih ih' =>
    refine .fn (by rw [fzL_length]; exact hl') (by rw [fzL_length]; exact hl'') (fun i v x h1 h2 => ?_) fun i v x h1 h2 => ?_
    · rw [fzL_get] at h2
      simp only [Option.map_eq_some_iff] at h2
      obtain ⟨y, hy, rfl⟩ := h2
      exact ih i v y h1 hy hc (fzPL_get hp.1 hy) fun k hk => hl k (by simp only [V.ids, List.mem_append]; exact .inl (idsL_mem hy hk))
    · rw [fzL_get] at h2
      simp only [Option.map_eq_some_iff] at h2
      obtain ⟨y, hy, rfl⟩ := h2
      exact ih' i v y h1 hy hc (fzPL_get hp.2 hy) fun k hk => hl k (by simp only [V.ids, List.mem_append]; exact .inr (idsL_mem hy hk))
  | mp hlv h =>
    rename_i id
    subst hc
    obtain ⟨h1, h3⟩ := hp
    obtain ⟨fz, refs, es, hid, hgd⟩ := map_get' h1
    simp only [V.fz]
    rw [hgd] at h3 ⊢
    simp only [O.ents, O.refs] at h3 ⊢
    subst h3
    have hid' : (H.fz l)[id]? = some (.map true [] es) := by
      rw [Heap.fz_get, hid]; simp [hl id (by simp [V.ids]), O.fz]
    have := h ((β id).wt 0) (by show hdOf H β id = _; simp [hdOf, hid]) rfl
    subst this
    obtain ⟨q1, ents, clock, q2, q3, q4, q5, q6⟩ := hk'.ro id _ hid'
    have up : ∀ {u : Value} {y : V}, RV ((cx w.heap (H.fz l) β F).only []) u y → RV (((cx w.heap (H.fz l) β F).only []).only []) u y := fun h =>
      h.mono ⟨Nat.le_refl _, fun _ _ hn => ⟨rfl, hn⟩, fun _ hl => by simp [Cx.only] at hl, fun _ _ hl => by simp [Cx.only] at hl⟩
    exact .mview (q1 rfl) q2 q3 (fun i e x he hx => up (q6 i e x he hx).1) fun i e x he hx => up (q6 i e x he hx).2
  | mview hb hm hl' hk1 hv1 ihk ihv =>
    subst hc
    have hs := hp_lt hm
    have up : ∀ {u : Value} {y : V}, RV ((cx w.heap H β F).only []) u y → RV (((cx w.heap (H.fz l) β F).only []).only []) u y := fun h =>
      h.strip (c' := (cx w.heap (H.fz l) β F).only []) (Nat.le_refl _) fun b hb hn => hle.same b hb hn
    exact .mview (hle.same _ hs hb).2 hm hl' (fun i e x he hx => up (hk1 i e x he hx)) fun i e x he hx => up (hv1 i e x he hx)
  | ifc h ih => exact .ifc (ih hc hp fun k hk => hl k (by simp only [V.ids]; exact hk))
  | nul => exact .nul

end
end Go.Abs

/- A part of a heap handed to a call, and taken back. -/
namespace Go.Abs
set_option linter.unusedVariables false

mutual
def V.ren (f : Nat → Nat) : V → V
  | .ptr id tot i j => .ptr (f id) tot i j
  | .own id es off len tot => .own (f id) es off len tot
  | .mp id => .mp (f id)
  | .agg cs => .agg (V.renL f cs)
  | .tup cs => .tup (V.renL f cs)
  | .fn g fs cs => .fn g (V.renL f fs) (V.renL f cs)
  | .ifc t x => .ifc t (x.ren f)
  | x => x
def V.renL (f : Nat → Nat) : List V → List V
  | [] => []
  | x :: l => x.ren f :: V.renL f l
end

theorem renL_map (f : Nat → Nat) (l : List V) : V.renL f l = l.map (V.ren f) := by induction l <;> simp_all [V.renL]

mutual
def Ce.ren (f : Nat → Nat) : Ce → Ce
  | .v x => .v (x.ren f)
  | .n es rows => .n es (Ce.renR f rows)
def Ce.renL (f : Nat → Nat) : List Ce → List Ce
  | [] => []
  | x :: l => x.ren f :: Ce.renL f l
def Ce.renR (f : Nat → Nat) : List (List Ce) → List (List Ce)
  | [] => []
  | r :: l => Ce.renL f r :: Ce.renR f l
end
theorem ceL_map (f : Nat → Nat) (l : List Ce) : Ce.renL f l = l.map (Ce.ren f) := by induction l <;> simp_all [Ce.renL]
theorem ceR_map (f : Nat → Nat) (l : List (List Ce)) : Ce.renR f l = l.map fun r => r.map (Ce.ren f) := by induction l <;> simp_all [Ce.renR, ceL_map]

def O.ren (f : Nat → Nat) : O → O
  | .tree refs rows => .tree (refs.map f) (Ce.renR f rows)
  | .mem fz refs rows => .mem fz (refs.map f) (rows.map fun r => V.renL f r)
  | .map fz refs es => .map fz (refs.map f) (es.map fun e => (e.1, e.2.ren f))
  | o => o

/-- How the one's objects are the other's. -/
structure Ren (f : Nat → Nat) (c c0 : Cx) : Prop where
  hp : c0.hp = c.hp
  own : ∀ b, c0.own b → c.own b
  live : ∀ i, c.live i → c0.live (f i)
  hd : ∀ i h, c.live i → c0.hd (f i) = some h → c.hd i = some h

theorem Ren.strip {f : Nat → Nat} {c c0 : Cx} (h : Ren f c c0) {v : Value} {x : V} (hr : RV (c.only []) v x) : RV (c0.only []) v x :=
  hr.strip (by rw [h.hp]; exact Nat.le_refl _) fun b _ hn => ⟨by rw [h.hp], fun e => hn (h.own b e)⟩

theorem RV.ren {f : Nat → Nat} {c c0 : Cx} {v : Value} {x : V} (hr : RV c v x) (hR : Ren f c c0) : RV c0 v (x.ren f) := by
  induction hr generalizing c0 with
  | any => exact .any
  | a => exact .a
  | ptr hl h => exact .ptr (hR.live _ hl) fun g e => h g (hR.hd _ _ hl e)
  | own hl h => exact .own (hR.live _ hl) fun g e => h g (hR.hd _ _ hl e)
  | ref g hb hs hg hr ih =>
    exact .ref g (fun e => hb (hR.own _ e)) (by rw [hR.hp]; exact hs) (fun k x hk => by rw [hR.hp]; exact hg k x hk) fun k x hk => hR.strip (hr k x hk)
  | nilv => exact .nilv
  | view g hb hcap hlen hg hr ih =>
    exact .view g (fun e => ⟨fun q => (hb e).1 (hR.own _ q), by rw [hR.hp]; exact (hb e).2.1, (hb e).2.2⟩) hcap hlen (fun i row hi j x hj => by rw [hR.hp]; exact hg i row hi j x hj) fun i row hi j x hj => hR.strip (hr i row hi j x hj)
  | agg hl ho h ih =>
    refine .agg (by simp [renL_map, hl]) ho fun i v x h1 h2 => ?_
    rw [renL_map, List.getElem?_map, Option.map_eq_some_iff] at h2
    obtain ⟨y, hy, rfl⟩ := h2
    exact ih i v y h1 hy hR
  | tup hl h ih =>
    refine .tup (by simp [renL_map, hl]) fun i v x h1 h2 => ?_
    rw [renL_map, List.getElem?_map, Option.map_eq_some_iff] at h2
    obtain ⟨y, hy, rfl⟩ := h2
    exact ih i v y h1 hy hR
  | fn hl hl' h h' ih ih' =>
    refine .fn (by simp [renL_map, hl]) (by simp [renL_map, hl']) (fun i v x h1 h2 => ?_) fun i v x h1 h2 => ?_
    · rw [renL_map, List.getElem?_map, Option.map_eq_some_iff] at h2
      obtain ⟨y, hy, rfl⟩ := h2
      exact ih i v y h1 hy hR
    · rw [renL_map, List.getElem?_map, Option.map_eq_some_iff] at h2
      obtain ⟨y, hy, rfl⟩ := h2
      exact ih' i v y h1 hy hR
  | mp hl h => exact .mp (hR.live _ hl) fun g e => h g (hR.hd _ _ hl e)
  | mview hb hm hl hk hv ihk ihv =>
    exact .mview (fun e => hb (hR.own _ e)) (by rw [hR.hp]; exact hm) hl (fun i e x he hx => hR.strip (hk i e x he hx)) fun i e x he hx => hR.strip (hv i e x he hx)
  | ifc h ih => exact .ifc (ih hR)
  | nul => exact .nul

theorem TR.ren {f : Nat → Nat} {c c0 : Cx} {refs : List Nat} {S : Nat → Prop} {u : Value} {x : Ce} (hr : TR c refs S u x) (hhp : c0.hp = c.hp) (hR : Ren f (c.only refs) (c0.only (refs.map f))) : TR c0 (refs.map f) S u (x.ren f) := by
  induction hr with
  | v h1 h => exact .v h1 (h.ren hR)
  | nil => exact .nil
  | n had cs E g T hb hcap hsz hlen hg hr hT hS hd hd2 ih =>
    rename_i ad b o cap es rows
    have hrow : ∀ (i : Nat) (row : List Ce), (Ce.renR f rows)[i]? = some row → ∃ row', rows[i]? = some row' ∧ row = row'.map (Ce.ren f) := by
      intro i row hi
      rw [ceR_map, List.getElem?_map, Option.map_eq_some_iff] at hi
      obtain ⟨row', h, rfl⟩ := hi
      exact ⟨row', h, rfl⟩
    have := TR.n (c := c0) (refs := refs.map f) (o := o) (es := es) (cap := cap) (rows := Ce.renR f rows) had cs E g T (by rw [hhp]; exact hb) (by rw [ceR_map, List.length_map]; exact hcap) hsz (fun i row hi => by
      obtain ⟨row', h, rfl⟩ := hrow i row hi
      rw [List.length_map]; exact hlen i row' h) (fun i row hi j x hj => by
      obtain ⟨row', h, rfl⟩ := hrow i row hi
      rw [List.getElem?_map, Option.map_eq_some_iff] at hj
      obtain ⟨y, hj, rfl⟩ := hj
      exact hg i row' h j y hj) (fun i row hi j x hj => by
      obtain ⟨row', h, rfl⟩ := hrow i row hi
      rw [List.getElem?_map, Option.map_eq_some_iff] at hj
      obtain ⟨y, hj, rfl⟩ := hj
      exact ih i row' h j y hj) (fun i j k h => by
      obtain ⟨row, x, h1, h2⟩ := hT i j k h
      exact ⟨row.map (Ce.ren f), x.ren f, by rw [ceR_map, List.getElem?_map, h1]; rfl, by rw [List.getElem?_map, h2]; rfl⟩) hS hd hd2
    have hl : (Ce.renR f rows).length = rows.length := by rw [ceR_map, List.length_map]
    rw [hl] at this
    exact this

theorem RO.ren {f : Nat → Nat} {c c0 : Cx} {h : Hd} {o : O} (hr : RO c h o) (hhp : c0.hp = c.hp) (hown : ∀ b, c0.own b ↔ c.own b) (hR : ∀ refs, refs = o.refs → Ren f (c.only refs) (c0.only (refs.map f))) : RO c0 h (o.ren f) := by
  cases o with
  | res => trivial
  | dead => trivial
  | sit s pos =>
    obtain ⟨q1, q2, q3, q4, q5⟩ := hr
    exact ⟨q1, q2, q3, q4, by rw [hhp]; exact q5⟩
  | tree refs rows =>
    have hR := hR refs rfl
    rcases hr with hr | ⟨q1, q2, q3, q4, q5⟩
    · exact .inl ⟨hr.1, by rw [hr.2.1]; rfl, hr.2.2⟩
    · refine .inr ⟨q1, q2, q3, ?_, by rw [hhp]; exact q5⟩
      have := q4.ren hhp hR
      have hl : (Ce.renR f rows).length = rows.length := by rw [ceR_map, List.length_map]
      rw [hl]; exact this
  | mem fz refs rows =>
    have hR := hR refs rfl
    rcases hr with hr | ⟨q1, q2, q3, q4, q5, cs, E, fr, q6, q7, q8, q9⟩
    · exact .inl ⟨hr.1, by simp [hr.2.1], hr.2.2⟩
    · refine .inr ⟨q1, by simpa using q2, by simpa using q3, fun i row hi => ?_, fun e k => q5 e ((hown _).1 k), cs, E, fr, by rw [hhp]; exact q6, q7, q8, fun i row hi hlo j x hj => ?_⟩
      · rw [List.getElem?_map, Option.map_eq_some_iff] at hi
        obtain ⟨row', hi, rfl⟩ := hi
        rw [renL_map, List.length_map]; exact q4 i row' hi
      · rw [List.getElem?_map, Option.map_eq_some_iff] at hi
        obtain ⟨row', hi, rfl⟩ := hi
        rw [renL_map, List.getElem?_map, Option.map_eq_some_iff] at hj
        obtain ⟨y, hj, rfl⟩ := hj
        obtain ⟨v, e1, e2, e3⟩ := q9 i row' hi hlo j y hj
        exact ⟨v, e1, e2, e3.ren hR⟩
  | map fz refs es =>
    have hR := hR refs rfl
    obtain ⟨q1, ents, clock, q2, q3, q4, q5, q6⟩ := hr
    refine ⟨fun e k => q1 e ((hown _).1 k), ents, clock, by rw [hhp]; exact q2, by simpa using q3, q4, q5, fun i e x he hx => ?_⟩
    rw [List.getElem?_map, Option.map_eq_some_iff] at hx
    obtain ⟨y, hx, rfl⟩ := hx
    obtain ⟨g1, g2⟩ := q6 i e y he hx
    exact ⟨g1.strip (by show c.hp.size ≤ c0.hp.size; rw [hhp]; exact Nat.le_refl _) fun b _ hn => ⟨by show c0.hp[b]? = c.hp[b]?; rw [hhp], fun k => hn ((hown b).1 k)⟩, g2.ren hR⟩

/-- The chosen objects, by their places. -/
def idx (sel : List Nat) (i : Nat) : Nat := sel.idxOf i
def back (sel : List Nat) (n j : Nat) : Nat := if j < sel.length then sel.getD j 0 else n + (j - sel.length)
def sub (H : Heap) (sel : List Nat) : Heap := sel.map fun i => (H.getD i .dead).ren (idx sel)
def place (H : Heap) : List Nat → List O → Heap
  | i :: is, o :: os => place (H.set i o) is os
  | _, _ => H
def merge (H : Heap) (sel : List Nat) (H' : Heap) : Heap :=
  place H sel ((H'.take sel.length).map (O.ren (back sel H.length))) ++ (H'.drop sel.length).map (O.ren (back sel H.length))

/-- It may be handed over. -/
structure OkSel (H : Heap) (sel : List Nat) : Prop where
  nd : sel.Nodup
  lt : ∀ i ∈ sel, i < H.length
  nres : ∀ i ∈ sel, H.getD i .dead ≠ .res
  cl : ∀ i ∈ sel, ∀ k ∈ (H.getD i .dead).refs, k ∈ sel

theorem place_length : ∀ (sel : List Nat) (os : List O) (H : Heap), (place H sel os).length = H.length := by
  intro sel
  induction sel with
  | nil => intro os H; cases os <;> rfl
  | cons i is ih => intro os H; cases os with
    | nil => rfl
    | cons o os => simp [place, ih]

theorem place_ne : ∀ (sel : List Nat) (os : List O) (H : Heap) (k : Nat), k ∉ sel → (place H sel os)[k]? = H[k]? := by
  intro sel
  induction sel with
  | nil => intro os H k _; cases os <;> rfl
  | cons i is ih => intro os H k hk; cases os with
    | nil => rfl
    | cons o os =>
      simp only [List.mem_cons, not_or] at hk
      simp only [place]
      rw [ih _ _ _ hk.2, List.getElem?_set_ne (fun e => hk.1 e.symm)]

theorem place_at : ∀ (sel : List Nat) (os : List O) (H : Heap) (j : Nat), sel.Nodup → (∀ i ∈ sel, i < H.length) → j < sel.length → j < os.length → (place H sel os)[sel.getD j 0]? = os[j]? := by
  intro sel
  induction sel with
  | nil => intro os H j _ _ h; simp at h
  | cons i is ih =>
    intro os H j hn hl h h2
    cases os with
    | nil => simp at h2
    | cons o os =>
      simp only [place]
      rw [List.nodup_cons] at hn
      cases j with
      | zero =>
        simp only [List.getD_cons_zero, List.getElem?_cons_zero]
        rw [place_ne _ _ _ _ hn.1, List.getElem?_set_self (hl i (by simp))]
      | succ j =>
        simp only [List.getD_cons_succ, List.getElem?_cons_succ]
        exact ih os _ j hn.2 (fun k hk => by simpa using hl k (by simp [hk])) (by simpa using h) (by simpa using h2)

theorem idx_lt {sel : List Nat} {i : Nat} (h : i ∈ sel) : idx sel i < sel.length := List.idxOf_lt_length_of_mem h
theorem getD_idx {sel : List Nat} {i : Nat} (h : i ∈ sel) : sel.getD (idx sel i) 0 = i := by
  have := idx_lt h
  unfold idx at this ⊢
  simp only [List.getD, List.getElem?_eq_getElem this, Option.getD_some]
  exact List.getElem_idxOf this
theorem idx_getD {sel : List Nat} {j : Nat} (hn : sel.Nodup) (h : j < sel.length) : idx sel (sel.getD j 0) = j := by
  simp [List.getD, h, idx, List.Nodup.idxOf_getElem hn]
theorem getD_mem {sel : List Nat} {j : Nat} (h : j < sel.length) : sel.getD j 0 ∈ sel := by
  simp [List.getD, h]

theorem back_idx {sel : List Nat} {n i : Nat} (h : i ∈ sel) : back sel n (idx sel i) = i := by
  unfold back; rw [if_pos (idx_lt h), getD_idx h]

theorem merge_back {H H' : Heap} {sel : List Nat} (ok : OkSel H sel) (hl : sel.length ≤ H'.length) (j : Nat) : (merge H sel H')[back sel H.length j]? = (H'[j]?).map (O.ren (back sel H.length)) := by
  unfold merge
  generalize hf : O.ren (back sel H.length) = g
  unfold back
  split
  · next h =>
    rw [List.getElem?_append_left (by rw [place_length]; exact ok.lt _ (getD_mem h)), place_at _ _ _ _ ok.nd ok.lt h (by simp; omega)]
    simp [List.getElem?_take, h]
  · next h =>
    rw [List.getElem?_append_right (by rw [place_length]; omega), place_length, List.getElem?_map, List.getElem?_drop]
    congr 2; omega

theorem merge_out {H H' : Heap} {sel : List Nat} {i : Nat} (hi : i < H.length) (hn : i ∉ sel) : (merge H sel H')[i]? = H[i]? := by
  unfold merge
  rw [List.getElem?_append_left (by rw [place_length]; exact hi), place_ne _ _ _ _ hn]

/-- Every object is either one that was not handed over, or comes of the call's heap. -/
theorem merge_cases {H H' : Heap} {sel : List Nat} {i : Nat} {o : O} (ok : OkSel H sel) (hl : sel.length ≤ H'.length) (h : (merge H sel H')[i]? = some o) :
    (i < H.length ∧ i ∉ sel ∧ H[i]? = some o) ∨ ∃ j o', i = back sel H.length j ∧ H'[j]? = some o' ∧ o = o'.ren (back sel H.length) := by
  by_cases hi : i < H.length
  · by_cases hs : i ∈ sel
    · right
      have := merge_back (H' := H') ok hl (idx sel i)
      rw [back_idx hs, h] at this
      cases hq : H'[idx sel i]? with
      | none => rw [hq] at this; cases this
      | some o' =>
        rw [hq] at this
        exact ⟨idx sel i, o', (back_idx hs).symm, hq, by simpa using this⟩
    · exact .inl ⟨hi, hs, by rw [← merge_out (H' := H') hi hs]; exact h⟩
  · right
    have hb : i = back sel H.length (sel.length + (i - H.length)) := by
      unfold back; rw [if_neg (by omega)]; omega
    have := merge_back (H' := H') ok hl (sel.length + (i - H.length))
    rw [← hb, h] at this
    cases hq : H'[sel.length + (i - H.length)]? with
    | none => rw [hq] at this; cases this
    | some o' =>
      rw [hq] at this
      exact ⟨_, o', hb, hq, by simpa using this⟩

theorem ren_res {f : Nat → Nat} {o : O} : o.ren f = .res ↔ o = .res := by cases o <;> simp [O.ren]

theorem hdOf_ren {H0 H1 : Heap} {β0 β1 : Nat → Hd} {f : Nat → Nat} {i j : Nat} (h : H1[i]? = (H0[j]?).map (O.ren f)) (hb : β1 i = β0 j) : hdOf H1 β1 i = hdOf H0 β0 j := by
  unfold hdOf
  rw [h, hb]
  cases H0[j]? with
  | none => rfl
  | some o => cases o <;> simp [O.ren, ceR_map]

theorem ownsB_ren {H0 H1 : Heap} {β0 β1 : Nat → Hd} {f : Nat → Nat} {i j b : Nat} (h : H1[i]? = (H0[j]?).map (O.ren f)) (hb : β1 i = β0 j) : ownsB H1 β1 i b ↔ ownsB H0 β0 j b := by
  unfold ownsB
  rw [h, hb]
  cases H0[j]? with
  | none => exact Iff.rfl
  | some o =>
    cases o with
    | mem fz refs rows => cases fz <;> simp [O.ren]
    | map fz refs rows => cases fz <;> simp [O.ren]
    | _ => simp [O.ren]

theorem liveIn_ren {H0 H1 : Heap} {f : Nat → Nat} {i j : Nat} (h : H1[i]? = (H0[j]?).map (O.ren f)) : liveIn H1 i ↔ liveIn H0 j := by
  unfold liveIn
  rw [h]
  cases H0[j]? with
  | none => simp
  | some o => simp [ren_res]

section
variable {w w' : World} {H H' : Heap} {β β' : Nat → Hd} {F : Nat → Prop} {sel : List Nat}

def βsub (β : Nat → Hd) (sel : List Nat) : Nat → Hd := fun j => β (sel.getD j 0)
def Fsub (H : Heap) (β : Nat → Hd) (F : Nat → Prop) (sel : List Nat) : Nat → Prop := fun b => F b ∨ ∃ i, i ∉ sel ∧ ownsB H β i b

theorem sub_get (ok : OkSel H sel) {j : Nat} (h : j < sel.length) : (sub H sel)[j]? = (H[sel.getD j 0]?).map (O.ren (idx sel)) := by
  have h1 := ok.lt _ (getD_mem h)
  unfold sub
  rw [List.getElem?_map, get_of_getD (d := 0) h, get_of_getD (d := O.dead) h1]; rfl
theorem sub_none {j : Nat} (h : ¬ j < sel.length) : (sub H sel)[j]? = none := by
  unfold sub; simp; omega

theorem owns_sub (ok : OkSel H sel) {j b : Nat} (h : ownsB (sub H sel) (βsub β sel) j b) : j < sel.length ∧ ownsB H β (sel.getD j 0) b := by
  by_cases hj : j < sel.length
  · exact ⟨hj, (ownsB_ren (sub_get ok hj) rfl).1 h⟩
  · unfold ownsB at h; rw [sub_none hj] at h; exact h.elim

theorem own_sub (ok : OkSel H sel) (b : Nat) : (cx w.heap (sub H sel) (βsub β sel) (Fsub H β F sel)).own b ↔ (cx w.heap H β F).own b := by
  constructor
  · rintro (⟨j, e⟩ | e | ⟨i, _, e⟩)
    · exact .inl ⟨_, (owns_sub ok e).2⟩
    · exact .inr e
    · exact .inl ⟨i, e⟩
  · rintro (⟨i, e⟩ | e)
    · by_cases hi : i ∈ sel
      · refine .inl ⟨idx sel i, ?_⟩
        rw [ownsB_ren (sub_get ok (idx_lt hi)) rfl, getD_idx hi]; exact e
      · exact .inr (.inr ⟨i, hi, e⟩)
    · exact .inr (.inl e)

theorem ren_sub (ok : OkSel H sel) {refs : List Nat} (hr : ∀ i ∈ refs, i ∈ sel) : Ren (idx sel) ((cx w.heap H β F).only refs) ((cx w.heap (sub H sel) (βsub β sel) (Fsub H β F sel)).only (refs.map (idx sel))) := by
  have key : ∀ i, i ∈ sel → (sub H sel)[idx sel i]? = (H[i]?).map (O.ren (idx sel)) := fun i hi => by rw [sub_get ok (idx_lt hi), getD_idx hi]
  refine ⟨rfl, fun b e => (own_sub (w := w) ok b).1 e, fun i hl => ⟨List.mem_map.2 ⟨i, hl.1, rfl⟩, (liveIn_ren (key i (hr i hl.1))).2 hl.2⟩, fun i h hl e => ?_⟩
  have e : hdOf (sub H sel) (βsub β sel) (idx sel i) = some h := e
  rw [hdOf_ren (key i (hr i hl.1)) (show βsub β sel (idx sel i) = β i by unfold βsub; rw [getD_idx (hr i hl.1)])] at e
  exact e

theorem sub_ok (hk : HOK w.heap H β F) (ok : OkSel H sel) : HOK w.heap (sub H sel) (βsub β sel) (Fsub H β F sel) := by
  refine ⟨fun j o hj => ?_, fun j j' b h1 h2 => ?_, fun b hb => ?_⟩
  · by_cases hlt : j < sel.length
    · rw [sub_get ok hlt, Option.map_eq_some_iff] at hj
      obtain ⟨o', ho', rfl⟩ := hj
      refine (hk.ro _ _ ho').ren rfl (own_sub ok) fun refs hrefs => ren_sub ok fun i hi => ok.cl _ (getD_mem hlt) i ?_
      rw [getD_some ho', ← hrefs]; exact hi
    · rw [sub_none hlt] at hj; cases hj
  · obtain ⟨g1, g2⟩ := owns_sub ok h1
    obtain ⟨g3, g4⟩ := owns_sub ok h2
    rw [← idx_getD ok.nd g1, ← idx_getD ok.nd g3, hk.one _ _ _ g2 g4]
  · rcases hb with hb | ⟨i, hi, hb⟩
    · refine ⟨(hk.far b hb).1, fun ⟨j, e⟩ => (hk.far b hb).2 ⟨_, (owns_sub ok e).2⟩⟩
    · refine ⟨hk.lt ⟨i, hb⟩, fun ⟨j, e⟩ => ?_⟩
      obtain ⟨g1, g2⟩ := owns_sub ok e
      have := hk.one _ _ _ hb g2
      exact hi (this ▸ getD_mem g1)

def βmerge (H : Heap) (β β' : Nat → Hd) (sel : List Nat) : Nat → Hd := fun i => if i ∈ sel then β' (idx sel i) else if i < H.length then β i else β' (sel.length + (i - H.length))

theorem βmerge_back (ok : OkSel H sel) (j : Nat) : βmerge H β β' sel (back sel H.length j) = β' j := by
  unfold βmerge back
  by_cases h : j < sel.length
  · rw [if_pos h, if_pos (getD_mem h), idx_getD ok.nd h]
  · rw [if_neg h, if_neg, if_neg (by omega)]
    · congr 1; omega
    · intro e; have := ok.lt _ e; omega

theorem βmerge_out {i : Nat} (hi : i < H.length) (hn : i ∉ sel) : βmerge H β β' sel i = β i := by
  unfold βmerge; rw [if_neg hn, if_pos hi]

theorem merge_adv (hk : HOK w.heap H β F) (ok : OkSel H sel) (hl : sel.length ≤ H'.length) (adv : Adv (Fsub H β F sel) w (sub H sel) (βsub β sel) w' H' β') :
    Adv F w H β w' (merge H sel H') (βmerge H β β' sel) ∧ Ren (back sel H.length) (cx w'.heap H' β' (Fsub H β F sel)) (cx w'.heap (merge H sel H') (βmerge H β β' sel) F) := by
  have hhd : ∀ j, hdOf (merge H sel H') (βmerge H β β' sel) (back sel H.length j) = hdOf H' β' j := fun j => hdOf_ren (merge_back ok hl j) (βmerge_back ok j)
  have hob : ∀ j b, ownsB (merge H sel H') (βmerge H β β' sel) (back sel H.length j) b ↔ ownsB H' β' j b := fun j b => ownsB_ren (merge_back ok hl j) (βmerge_back ok j)
  have hlv : ∀ j, liveIn (merge H sel H') (back sel H.length j) ↔ liveIn H' j := fun j => liveIn_ren (merge_back ok hl j)
  have hoo : ∀ i b, i < H.length → i ∉ sel → (ownsB (merge H sel H') (βmerge H β β' sel) i b ↔ ownsB H β i b) := fun i b hi hn => by
    unfold ownsB; rw [merge_out hi hn, βmerge_out hi hn]
  have hcase : ∀ i b, ownsB (merge H sel H') (βmerge H β β' sel) i b → (i < H.length ∧ i ∉ sel ∧ ownsB H β i b) ∨ ∃ j, i = back sel H.length j ∧ ownsB H' β' j b := by
    intro i b h
    cases hq : (merge H sel H')[i]? with
    | none => unfold ownsB at h; rw [hq] at h; exact h.elim
    | some o =>
      rcases merge_cases ok hl hq with ⟨h1, h2, _⟩ | ⟨j, o', rfl, _, _⟩
      · exact .inl ⟨h1, h2, (hoo i b h1 h2).1 h⟩
      · exact .inr ⟨j, rfl, (hob j b).1 h⟩
  have hltH : ∀ i b, ownsB H β i b → i < H.length := fun i b h => by
    cases hq : H[i]? with
    | none => unfold ownsB at h; rw [hq] at h; exact h.elim
    | some o => exact lt_of_get hq
  have hown : ∀ b, (cx w'.heap (merge H sel H') (βmerge H β β' sel) F).own b ↔ (cx w'.heap H' β' (Fsub H β F sel)).own b := by
    intro b
    constructor
    · rintro (⟨i, e⟩ | e)
      · rcases hcase i b e with ⟨_, h2, h3⟩ | ⟨j, _, h3⟩
        · exact .inr (.inr ⟨i, h2, h3⟩)
        · exact .inl ⟨j, h3⟩
      · exact .inr (.inl e)
    · rintro (⟨j, e⟩ | e | ⟨i, hn, e⟩)
      · exact .inl ⟨_, (hob j b).2 e⟩
      · exact .inr e
      · exact .inl ⟨i, (hoo i b (hltH i b e) hn).2 e⟩
  have hsame : ∀ b, b < w.heap.size → ¬ owned (sub H sel) (βsub β sel) b → w'.heap[b]? = w.heap[b]? := adv.ext.block
  have hsubown : ∀ b, owned (sub H sel) (βsub β sel) b → owned H β b := fun b ⟨j, e⟩ => ⟨_, (owns_sub ok e).2⟩
  have hle : (cx w.heap H β F).le (cx w'.heap (merge H sel H') (βmerge H β β' sel) F) := by
    refine ⟨adv.ext.size, fun b hb hno => ⟨hsame b hb fun e => hno (.inl (hsubown b e)), fun e => ?_⟩, fun i hi => ?_, fun i h' hi e => ?_⟩
    · rcases e with ⟨i, e⟩ | e
      · rcases hcase i b e with ⟨_, _, h3⟩ | ⟨j, _, h3⟩
        · exact hno (.inl ⟨i, h3⟩)
        · rcases adv.own b ⟨j, h3⟩ with h4 | h4
          · exact hno (.inl (hsubown b h4))
          · have : b < w.heap.size := hb
            omega
      · exact hno (.inr e)
    · by_cases hs : i ∈ sel
      · have h1 : liveIn (sub H sel) (idx sel i) := (liveIn_ren (show (sub H sel)[idx sel i]? = (H[i]?).map (O.ren (idx sel)) by rw [sub_get ok (idx_lt hs), getD_idx hs])).2 hi
        have := (hlv (idx sel i)).2 (adv.le.live _ h1)
        rw [back_idx hs] at this
        exact this
      · obtain ⟨o, ho, hr⟩ := hi
        exact ⟨o, by rw [merge_out (lt_of_get ho) hs]; exact ho, hr⟩
    · have e : hdOf (merge H sel H') (βmerge H β β' sel) i = some h' := e
      by_cases hs : i ∈ sel
      · have hsub : (sub H sel)[idx sel i]? = (H[i]?).map (O.ren (idx sel)) := by rw [sub_get ok (idx_lt hs), getD_idx hs]
        have hhs : hdOf (sub H sel) (βsub β sel) (idx sel i) = hdOf H β i := hdOf_ren hsub (by unfold βsub; rw [getD_idx hs])
        have h1 : liveIn (sub H sel) (idx sel i) := (liveIn_ren hsub).2 hi
        have h2 := hhd (idx sel i)
        rw [back_idx hs] at h2
        have := adv.le.hd (idx sel i) h' h1 (show hdOf H' β' (idx sel i) = some h' by rw [← h2]; exact e)
        rcases this with g | ⟨g0, g, g1⟩
        · exact .inl (show hdOf H β i = some h' by rw [← hhs]; exact g)
        · exact .inr ⟨g0, show hdOf H β i = some g0 by rw [← hhs]; exact g, g1⟩
      · obtain ⟨o, ho, hr⟩ := hi
        left
        show hdOf H β i = some h'
        rw [← e]
        unfold hdOf
        rw [merge_out (lt_of_get ho) hs, βmerge_out (lt_of_get ho) hs]
  have hren : Ren (back sel H.length) (cx w'.heap H' β' (Fsub H β F sel)) (cx w'.heap (merge H sel H') (βmerge H β β' sel) F) :=
    ⟨rfl, fun b e => (hown b).1 e, fun j hj => (hlv j).2 hj, fun j h _ e => by
      have e : hdOf (merge H sel H') (βmerge H β β' sel) (back sel H.length j) = some h := e
      rw [hhd j] at e; exact e⟩
  refine ⟨⟨⟨fun i o hi => ?_, fun i i' b h1 h2 => ?_, fun b hb => ?_⟩, hle, ⟨adv.ext.os, adv.ext.tape, adv.ext.output, adv.ext.size, fun b hb hn => hsame b hb fun e => hn (hsubown b e)⟩⟩, hren⟩
  · rcases merge_cases ok hl hi with ⟨h1, h2, h3⟩ | ⟨j, o', rfl, h3, rfl⟩
    · rw [βmerge_out h1 h2]
      have hro := hk.ro i o h3
      have hblk : ∀ b, (ownsB H β i b ∨ ¬ (cx w.heap H β F).own b) → b < w.heap.size → w'.heap[b]? = w.heap[b]? := by
        intro b hb hlt
        refine hsame b hlt fun ⟨j, e⟩ => ?_
        obtain ⟨g1, g2⟩ := owns_sub ok e
        rcases hb with hb | hb
        · exact h2 (hk.one _ _ _ hb g2 ▸ getD_mem g1)
        · exact hb (.inl ⟨_, g2⟩)
      cases o with
      | res => trivial
      | dead => trivial
      | sit s pos => exact hro.mono hle (hblk _ (.inl (by unfold ownsB; rw [h3])) (hp_lt hro.2.2.2.2)) (fun hno => (hle.same _ (hp_lt hro.2.2.2.2) hno).2) fun _ _ e => by cases e
      | tree refs rows =>
        rcases hro with hro | ⟨q1, q2, q3, q4⟩
        · exact .inl hro
        · have hob : ∀ b, ((β i).b = b ∨ (β i).sub b) → ownsB H β i b := fun b e => by unfold ownsB; rw [h3]; exact ⟨q1, e⟩
          refine RO.mono (o := .tree refs rows) (.inr ⟨q1, q2, q3, q4⟩) hle (hblk _ (.inl (hob _ (.inl rfl))) (q4.1.lt _ (.inl rfl))) (fun hno => absurd (.inl ⟨i, hob _ (.inl rfl)⟩) hno) fun _ _ _ _ b e => hblk b (.inl (hob b (.inr e))) (q4.1.lt b (.inr e))
      | mem fz refs rows =>
        rcases hro with hro | ⟨q1, q2, q3, q4, q5, cs, E, fr, q6, q7⟩
        · exact .inl hro
        · refine RO.mono (.inr ⟨q1, q2, q3, q4, q5, cs, E, fr, q6, q7⟩) hle (hblk _ ?_ (hp_lt q6)) (fun hno => (hle.same _ (hp_lt q6) hno).2) fun _ _ e => by cases e
          cases fz with
          | true => exact .inr (q5 rfl)
          | false => exact .inl (by unfold ownsB; rw [h3]; exact ⟨q1, rfl⟩)
      | map fz refs es =>
        obtain ⟨q1, ents, clock, q2, q3⟩ := hro
        refine RO.mono (o := .map fz refs es) ⟨q1, ents, clock, q2, q3⟩ hle (hblk _ ?_ (hp_lt q2)) (fun hno => (hle.same _ (hp_lt q2) hno).2) fun _ _ e => by cases e
        cases fz with
        | true => exact .inr (q1 rfl)
        | false => exact .inl (by unfold ownsB; rw [h3])
    · rw [βmerge_back ok]
      refine (adv.hok.ro j o' h3).ren rfl hown fun refs _ => ⟨rfl, fun b e => (hown b).1 e, fun k hk' => ⟨List.mem_map.2 ⟨k, hk'.1, rfl⟩, hren.live k hk'.2⟩, fun k h hk' e => hren.hd k h hk'.2 e⟩
  · rcases hcase i b h1 with ⟨a1, a2, a3⟩ | ⟨j, rfl, a3⟩ <;> rcases hcase i' b h2 with ⟨b1, b2, b3⟩ | ⟨j', rfl, b3⟩
    · exact hk.one _ _ _ a3 b3
    · exact ((adv.hok.far b (.inr ⟨i, a2, a3⟩)).2 ⟨j', b3⟩).elim
    · exact ((adv.hok.far b (.inr ⟨i', b2, b3⟩)).2 ⟨j, a3⟩).elim
    · rw [adv.hok.one _ _ _ a3 b3]
  · obtain ⟨g1, g2⟩ := adv.hok.far b (.inl hb)
    refine ⟨g1, fun ⟨i, e⟩ => ?_⟩
    rcases hcase i b e with ⟨_, _, a3⟩ | ⟨j, _, a3⟩
    · exact (hk.far b hb).2 ⟨i, a3⟩
    · exact g2 ⟨j, a3⟩

end
end Go.Abs

/- Operations with an effect; calls. -/
namespace Go.Abs
set_option linter.unusedVariables false

def RVs (c : Cx) (vs : Array Value) (xs : List V) : Prop :=
  vs.size = xs.length ∧ ∀ (i : Nat) (v : Value) (x : V), vs[i]? = some v → xs[i]? = some x → RV c v x

/-- A call of function f with such values, over such objects: it returns, and Q tells what and over what. -/
def DC (P : Program) (f : FuncId) (xs : List V) (H : Heap) (Q : V → Heap → Prop) : Prop :=
  ∀ (w : World) (β : Nat → Hd) (F : Nat → Prop) (vs : Array Value), HOK w.heap H β F → RVs (cx w.heap H β F) vs xs →
    Calls P f vs w fun e w' => ∃ r x H' β', e = .returned r ∧ Adv F w H β w' H' β' ∧ RV (cx w'.heap H' β' F) r x ∧ Q x H'

theorem DC.mono {P : Program} {f : FuncId} {xs : List V} {H : Heap} {Q Q' : V → Heap → Prop} (h : DC P f xs H Q) (hq : ∀ x H', Q x H' → Q' x H') : DC P f xs H Q' :=
  fun w β F vs hk hr => (h w β F vs hk hr).mono fun e w' ⟨r, x, H', β', h1, h2, h3, h4⟩ => ⟨r, x, H', β', h1, h2, h3, hq _ _ h4⟩

/-- A call that owns nothing of others, its result frozen. -/
def DP (P : Program) (f : FuncId) (xs : List V) (Q : V → Prop) : Prop := DC P f xs [] fun x H => x.fzP H ∧ Q (x.fz H)

theorem DP.mono {P : Program} {f : FuncId} {xs : List V} {Q Q' : V → Prop} (h : DP P f xs Q) (hq : ∀ x, Q x → Q' x) : DP P f xs Q' :=
  DC.mono h fun x H' ⟨h1, h2⟩ => ⟨h1, hq _ h2⟩

/-- A call that gives just this. -/
def Pf (P : Program) (f : FuncId) (xs : List V) (r : V) : Prop := DP P f xs fun x => x = r

theorem Pf.use {P : Program} {f : FuncId} {xs : List V} {r : V} {Q : V → Prop} (h : Pf P f xs r) (hq : Q r) : DP P f xs Q := DP.mono h fun x e => e ▸ hq

/-- How it may be told otherwise, wherever it lies. -/
def Weak (st st' : St) : Prop :=
  st'.bs = st.bs ∧ (∀ i : Nat, st.hp[i]? = some O.res → st'.hp[i]? = some O.res) ∧ st.hp.length ≤ st'.hp.length ∧
  ∀ (w : World) (β : Nat → Hd) (F : Nat → Prop) (N : Nat) (a : Act), Rel w β F N st a → ∃ β', Adv F w st.hp β w st'.hp β' ∧ Rel w β' F N st' a

inductive I where
  | lt (d : Option Nat) (l : L)
  | frz (t : Nat)                                                  -- of ours: what a slot holds is frozen
  | nilv (t es : Nat)                                              -- of ours: a nil slice is a slice without elements
  | nilo (t es r : Nat)                                            -- of ours: a nil slice is one of our own
  | keep (ts : List Nat)                                           -- of ours: other slots are forgotten
  | wk                                                             -- of ours: it is told otherwise
  | store (ap : List Nat) (n : Nat) (x v : Operand)
  | alloc (d : Option Nat) (k n : Nat) (zero : List V)
  | box (d : Option Nat) (k n : Nat) (x : Operand)
  | bsl (d : Option Nat) (k es n : Nat) (zero : List V) (parts : List (Nat × Operand))
  | bsv (d : Option Nat) (es n : Nat) (zero : List V) (parts : List (Nat × Operand))   -- the same, never written
  | app (ap : List Nat) (d : Option Nat) (r es bytes : Nat) (x y : Operand)
  | call (d : Option Nat) (f : FuncId) (xs : List Operand)
  | callv (d : Option Nat) (fv : Operand) (xs : List Operand)
  | callm (d : Option Nat) (fv : Operand) (xs : List Operand)       -- a call that is handed objects, which it may change; its result isn't frozen
  | callb (d : Option Nat) (fv : Operand) (xs : List Operand)       -- a call that is lent objects: it reads them only, and its result has nothing of them
  | callo (d : Option Nat) (fv : Operand) (xs : List Operand)       -- a call that is handed no objects, its result not frozen
  | mkm (d : Option Nat) (r : Nat)                                  -- a new map
  | mup (ap : List Nat) (kd : IntKind) (m key v : Operand)          -- an entry of a map set
  | rng (d : Option Nat) (r : Nat) (x : Operand)                    -- a walk over a text begins
  | nxt (d : Option Nat) (x : Operand)                              -- its next step
  | clr (d : Option Nat) (es : Nat) (zero : List V) (x : Operand)   -- a slice's elements to zero
  | cpy (d : Option Nat) (es : Nat) (x y : Operand)                 -- a slice's elements into another
  | mks (d : Option Nat) (r es bytes : Nat) (zero : List V) (n : Operand)           -- a new slice of zeros
  | pan                                                             -- never reached
  | calla (ap : List Nat) (d : Option Nat) (fv : Operand) (xs : List Operand)   -- as callm, in an open order: what the slots ap hold is none of its objects
  deriving Inhabited

mutual
/-- Nothing of memory. -/
def V.flat : V → Bool
  | .a _ => true
  | .any => true
  | .nul _ => true
  | .agg cs => V.flatL cs
  | .tup vs => V.flatL vs
  | _ => false
def V.flatL : List V → Bool
  | [] => true
  | x :: xs => x.flat && V.flatL xs
end

theorem flatL_get : ∀ {l : List V} {i : Nat} {x : V}, V.flatL l = true → l[i]? = some x → x.flat = true := by
  intro l
  induction l with
  | nil => intro i x _ h; simp at h
  | cons y l ih =>
    intro i x h hx
    simp only [V.flatL, Bool.and_eq_true] at h
    cases i with
    | zero => simp at hx; subst hx; exact h.1
    | succ i => exact ih h.2 (by simpa using hx)

theorem RV.flat {c c' : Cx} {v : Value} {x : V} (h : RV c v x) (hf : x.flat = true) : RV c' v x := by
  induction h with
  | any => exact .any
  | a => exact .a
  | nul => exact .nul
  | agg hl h1 h ih => exact .agg hl h1 fun i v x e1 e2 => ih i v x e1 e2 (flatL_get (by simpa [V.flat] using hf) e2)
  | tup hl h ih => exact .tup hl fun i v x e1 e2 => ih i v x e1 e2 (flatL_get (by simpa [V.flat] using hf) e2)
  | _ => simp [V.flat] at hf

/-- The object that a value is an address in, or a slice of. -/
def V.oid : V → Option Nat
  | .ptr id _ _ _ => some id
  | .own id _ _ _ _ => some id
  | .mp id => some id
  | _ => none

def V.rowIds (H : Heap) : V → List Nat
  | .own id _ _ _ _ => (H.getD id .dead).refs
  | _ => []

def chunk (es : Nat) : Nat → List V → List (List V)
  | 0, _ => []
  | n + 1, l => l.take es :: chunk es n (l.drop es)

def addAll (l : List Nat) : List Nat → List Nat
  | [] => l
  | i :: is => addAll (if i ∈ l then l else l ++ [i]) is
/-- The objects that are reached. -/
def clos (H : Heap) : Nat → List Nat → List Nat
  | 0, l => l
  | n + 1, l => clos H n (addAll l (l.flatMap fun i => (H.getD i .dead).refs))

def okFunc (P : Program) (f : FuncId) : Bool :=
  match P.funcs[f]? with
  | some fn => fn.name != "runtime.NumGoroutine" && fn.body.isSome
  | none => false

def I.bsvV (es n : Nat) (zero : List V) (ps : List (Nat × Nat × V)) : V := if n = 0 then .nul es else .view es (chunk es n (fillV (List.flatten (List.replicate n zero)) ps))

/-- What the operation asks and leaves. -/
def I.vc (P : Program) (i : I) (k : St → Prop) (st : St) : Prop :=
  match i with
  | .lt d l => l.pre st ∧ k (st.put d (l.val st))
  | .frz t => (if (gt st.sl t).ids = [] then k st else (gt st.sl t).fzP st.hp ∧ k { st with sl := up st.sl t ((gt st.sl t).fz st.hp), hp := st.hp.fz (gt st.sl t).ids })
  | .nilv t es => k { st with sl := up st.sl t (if (gt st.sl t).nilSl then .view es [] else gt st.sl t) }
  | .nilo t es r => match gt st.sl t with
    | .a (.slice none 0 0) => st.hp[st.bs + r]? = some .res ∧ k { st with sl := up st.sl t (.own (st.bs + r) es 0 0 0), hp := st.hp.set (st.bs + r) (.mem false [] []) }
    | _ => k st
  | .keep ts => k { st with sl := keepS st.sl ts }
  | .wk => ∃ st', Weak st st' ∧ k st'
  | .store ap n x v => match st.ev x with
    | .ptr id tot i j => match st.hp.getD id .dead with
      | .mem false refs rows => (∀ t ∈ ap, (gt st.sl t).oid ≠ some id) ∧ rows.length = tot ∧ i < tot ∧ j + n ≤ (rows.getD i []).length ∧ (st.ev v).sized st.hp n ∧
          k { st with hp := st.hp.set id (.mem false (addRefs refs (V.idsL (st.ev v).cells)) (rows.set i (rowSet (rows.getD i []) j (st.ev v).cells))) }
      | _ => False
    | _ => False
  | .alloc d r n zero => st.hp[st.bs + r]? = some .res ∧ zero.length = n ∧ k ({ st with hp := st.hp.set (st.bs + r) (.mem false [] [zero]) }.put d (.ptr (st.bs + r) 1 0 0))
  | .box d r n x => st.hp[st.bs + r]? = some .res ∧ (st.ev x).sized st.hp n ∧
      k ({ st with hp := st.hp.set (st.bs + r) (.mem false (V.idsL (st.ev x).cells) [(st.ev x).cells]) }.put d (.ptr (st.bs + r) 1 0 0))
  | .bsl d r es n zero parts => st.hp[st.bs + r]? = some .res ∧ zero.length = es ∧ (∀ p ∈ parts, (st.ev p.2).sized st.hp es ∧ p.1 < n) ∧
      k ({ st with hp := st.hp.set (st.bs + r) (.mem false (V.idsL (fillV (List.flatten (List.replicate n zero)) (parts.map fun (p : Nat × Operand) => (p.1 * es, es, st.ev p.2)))) (chunk es n (fillV (List.flatten (List.replicate n zero)) (parts.map fun (p : Nat × Operand) => (p.1 * es, es, st.ev p.2))))) }.put d (.own (st.bs + r) es 0 n n))
  | .bsv d es n zero parts => zero.length = es ∧ (∀ p ∈ parts, V.idsL (st.ev p.2).cells = [] ∧ (st.ev p.2).sized st.hp es ∧ p.1 < n) ∧
      k (st.put d (I.bsvV es n zero (parts.map fun (p : Nat × Operand) => (p.1 * es, es, st.ev p.2))))
  | .app ap d r es bytes x y => match st.ev x with
    | .own id es' off len tot => match st.hp.getD id .dead with
      | .mem false refs rows => (∀ t ∈ ap, (gt st.sl t).oid ≠ some id) ∧ es' = es ∧ rows.length = tot ∧ off + len = tot ∧ okSl st.hp (st.ev y) ∧ (st.ev y).slEs es ∧ ((len : Int) + (st.ev y).slLen) * bytes ≤ 140737488355328 ∧
          k ({ st with hp := st.hp.set id (.mem false (addRefs refs ((st.ev y).rowIds st.hp)) (rows ++ (st.ev y).rowsOf st.hp)) }.put d (.own id es off (len + ((st.ev y).rowsOf st.hp).length) (tot + ((st.ev y).rowsOf st.hp).length)))
      | _ => False
    | .a (.slice none 0 0) => st.hp[st.bs + r]? = some .res ∧ okSl st.hp (st.ev y) ∧ (st.ev y).slEs es ∧ (st.ev y).slLen * bytes ≤ 140737488355328 ∧
          k ({ st with hp := st.hp.set (st.bs + r) (.mem false ((st.ev y).rowIds st.hp) ((st.ev y).rowsOf st.hp)) }.put d (.own (st.bs + r) es 0 ((st.ev y).rowsOf st.hp).length ((st.ev y).rowsOf st.hp).length))
    | .nul es' => es' = es ∧ st.hp[st.bs + r]? = some .res ∧ okSl st.hp (st.ev y) ∧ (st.ev y).slEs es ∧ (st.ev y).slLen * bytes ≤ 140737488355328 ∧
          (if ((st.ev y).rowsOf st.hp).isEmpty = true then k (st.put d (.nul es)) else
            k ({ st with hp := st.hp.set (st.bs + r) (.mem false ((st.ev y).rowIds st.hp) ((st.ev y).rowsOf st.hp)) }.put d (.own (st.bs + r) es 0 ((st.ev y).rowsOf st.hp).length ((st.ev y).rowsOf st.hp).length)))
    | _ => False
  | .call d f xs => V.idsL (xs.map st.ev) = [] ∧ DP P f (xs.map st.ev) fun r => k (st.put d r)
  | .callm d fv xs => match st.ev fv with
    | .fn (.func f) fs cs => okFunc P f = true ∧ OkSel st.hp (clos st.hp 8 (addAll [] (V.idsL (fs ++ xs.map st.ev ++ cs)))) ∧
        DC P f (V.renL (idx (clos st.hp 8 (addAll [] (V.idsL (fs ++ xs.map st.ev ++ cs))))) (fs ++ xs.map st.ev ++ cs)) (sub st.hp (clos st.hp 8 (addAll [] (V.idsL (fs ++ xs.map st.ev ++ cs))))) fun r H' =>
          k ({ st with hp := merge st.hp (clos st.hp 8 (addAll [] (V.idsL (fs ++ xs.map st.ev ++ cs)))) H' }.put d (r.ren (back (clos st.hp 8 (addAll [] (V.idsL (fs ++ xs.map st.ev ++ cs)))) st.hp.length)))
    | _ => False
  | .callb d fv xs => match st.ev fv with
    | .fn (.func f) fs cs => okFunc P f = true ∧ V.fzPL st.hp (fs ++ xs.map st.ev ++ cs) ∧ DP P f (V.fzL st.hp (fs ++ xs.map st.ev ++ cs)) fun r => r.flat = true ∧ k (st.put d r)
    | _ => False
  | .callo d fv xs => match st.ev fv with
    | .fn (.func f) fs cs => okFunc P f = true ∧ V.idsL (fs ++ xs.map st.ev ++ cs) = [] ∧ DC P f (fs ++ xs.map st.ev ++ cs) [] fun r H' => k ({ st with hp := st.hp ++ H'.map (O.ren (st.hp.length + ·)) }.put d (r.ren (st.hp.length + ·)))
    | _ => False
  | .mkm d r => st.hp[st.bs + r]? = some .res ∧ k ({ st with hp := st.hp.set (st.bs + r) (.map false [] []) }.put d (.mp (st.bs + r)))
  | .mup ap kd m key v => match st.ev m with
    | .mp id => match st.hp.getD id .dead with
      | .map false refs es => (∀ t ∈ ap, (gt st.sl t).oid ≠ some id) ∧ (∀ e ∈ es, e.1.isKey kd = true) ∧ (st.ev key).isKey kd = true ∧
          k { st with hp := st.hp.set id (.map false (addRefs refs (V.idsL [st.ev v])) (putE es (st.ev key) (st.ev v))) }
      | _ => False
    | _ => False
  | .rng d r x => st.hp[st.bs + r]? = some .res ∧ (st.ev x).isStr = true ∧ k ({ st with hp := st.hp.set (st.bs + r) (.sit (st.ev x).txt 0) }.put d (.ptr (st.bs + r) 0 0 0))
  | .nxt d x => match st.ev x with
    | .ptr id 0 0 0 => match st.hp.getD id .dead with
      | .sit s pos => if pos < s.size then k ({ st with hp := st.hp.set id (.sit s (pos + (Utf8.decode s pos).2)) }.put d (.tup [.bool true, .int .i64 pos, .int .i32 (Utf8.decode s pos).1]))
          else k (st.put d (.tup [.bool false]))
      | _ => False
    | _ => False
  | .callv d fv xs => match st.ev fv with
    | .fn (.func f) fs cs => okFunc P f = true ∧ V.idsL (fs ++ xs.map st.ev ++ cs) = [] ∧ DP P f (fs ++ xs.map st.ev ++ cs) fun r => k (st.put d r)
    | _ => False
  | .clr d es zero x => match st.ev x with
    | .own id es' off len tot => match st.hp.getD id .dead with
      | .mem false refs rows => es' = es ∧ rows.length = tot ∧ off + len ≤ tot ∧ zero.length = es ∧
          k ({ st with hp := st.hp.set id (.mem false refs (rows.take off ++ List.replicate len zero ++ rows.drop (off + len))) }.put d (.a (.tuple #[])))
      | _ => False
    | .a (.slice none 0 0) => k (st.put d (.a (.tuple #[])))
    | _ => False
  | .cpy d es x y => match st.ev x with
    | .own id es' off len tot => match st.hp.getD id .dead with
      | .mem false refs rows => es' = es ∧ rows.length = tot ∧ off + len ≤ tot ∧ okSl st.hp (st.ev y) ∧ (st.ev y).slEs es ∧ (st.ev y).slLen ≤ len ∧
          k ({ st with hp := st.hp.set id (.mem false (addRefs refs ((st.ev y).rowIds st.hp)) (rows.take off ++ (st.ev y).rowsOf st.hp ++ rows.drop (off + ((st.ev y).rowsOf st.hp).length))) }.put d (.a (.int .i64 (st.ev y).slLen)))
      | _ => False
    | _ => False
  | .mks d r es bytes zero n => st.hp[st.bs + r]? = some .res ∧ zero.length = es ∧ (∃ m, st.ev n = .a (.int .i64 m)) ∧ 0 ≤ (st.ev n).num ∧ (st.ev n).num * bytes ≤ 140737488355328 ∧
      k ({ st with hp := st.hp.set (st.bs + r) (.mem false [] (List.replicate (st.ev n).num.toNat zero)) }.put d (.own (st.bs + r) es 0 (st.ev n).num.toNat (st.ev n).num.toNat))
  | .pan => False
  | .calla ap d fv xs => match st.ev fv with
    | .fn (.func f) fs cs => okFunc P f = true ∧ OkSel st.hp (clos st.hp 8 (addAll [] (V.idsL (fs ++ xs.map st.ev ++ cs)))) ∧
        (∀ t ∈ ap, ∀ k, (gt st.sl t).oid = some k → k ∉ clos st.hp 8 (addAll [] (V.idsL (fs ++ xs.map st.ev ++ cs)))) ∧
        DC P f (V.renL (idx (clos st.hp 8 (addAll [] (V.idsL (fs ++ xs.map st.ev ++ cs))))) (fs ++ xs.map st.ev ++ cs)) (sub st.hp (clos st.hp 8 (addAll [] (V.idsL (fs ++ xs.map st.ev ++ cs))))) fun r H' =>
          k ({ st with hp := merge st.hp (clos st.hp 8 (addAll [] (V.idsL (fs ++ xs.map st.ev ++ cs)))) H' }.put d (r.ren (back (clos st.hp 8 (addAll [] (V.idsL (fs ++ xs.map st.ev ++ cs)))) st.hp.length)))
    | _ => False

def cmpMup (P : Program) (o : Oper) (ap : List Nat) (t : TypeId) (m k v : Operand) : Option I :=
  match P.underlying t with
  | some (.map kt _) => match P.underlying kt with
    | some (.int kd) => if o.dst = none then some (.mup ap kd m k v) else none
    | _ => none
  | _ => none

def cmpRng (P : Program) (o : Oper) (r : Nat) (t : TypeId) (x : Operand) : Option I :=
  match P.underlying t with
  | some .string => some (.rng o.dst r x)
  | _ => none

def cmpBsl (P : Program) (o : Oper) (r : Nat) (t : TypeId) (len : Nat) (parts : Array (Nat × Operand)) : Option I :=
  match P.underlying t with
  | some (.slice e) => (P.info? e).bind fun i => i.zero.bind fun z =>
    if z.cells.size = i.size ∧ 0 < i.size ∧ len * i.size ≤ 16777216 ∧ z.cells.toList.all (·.oneCell') then some (.bsl o.dst r i.size len (z.cells.toList.map .a) parts.toList) else none
  | _ => none

def cmpBsv (P : Program) (o : Oper) (t : TypeId) (len : Nat) (parts : Array (Nat × Operand)) : Option I :=
  match P.underlying t with
  | some (.slice e) => (P.info? e).bind fun i => i.zero.bind fun z =>
    if z.cells.size = i.size ∧ 0 < i.size ∧ len * i.size ≤ 16777216 ∧ z.cells.toList.all (·.oneCell') then some (.bsv o.dst i.size len (z.cells.toList.map .a) parts.toList) else none
  | _ => none

def isApp : Builtin → Bool
  | .append => true
  | _ => false

/-- append's types: of what it is laid on, of what is laid on. -/
def cmpApp (P : Program) (o : Oper) (r : Nat) (ap : List Nat) (args : Array Operand) (argTypes : Array TypeId) : Option I :=
  (argTypes[0]?).bind fun t => (argTypes[1]?).bind fun t2 => (args[0]?).bind fun x => (args[1]?).bind fun y =>
  match P.underlying t, P.underlying t2 with
  | some (.slice e), some (.slice _) => (P.info? e).bind fun i => i.zero.bind fun z => if z.cells.size = i.size ∧ 0 < i.size ∧ 0 < i.bytes then some (.app ap o.dst r i.size i.bytes x y) else none
  | _, _ => none

def isClr : Builtin → Bool
  | .clear => true
  | _ => false
def isCpy : Builtin → Bool
  | .copy => true
  | _ => false

def cmpClr (P : Program) (o : Oper) (args : Array Operand) (argTypes : Array TypeId) : Option I :=
  (argTypes[0]?).bind fun t => (args[0]?).bind fun x =>
  match P.underlying t with
  | some (.slice e) => (P.info? e).bind fun i => i.zero.bind fun z => if z.cells.size = i.size ∧ 0 < i.size ∧ z.cells.toList.all (·.oneCell') then some (.clr o.dst i.size (z.cells.toList.map .a) x) else none
  | _ => none

def cmpCpy (P : Program) (o : Oper) (args : Array Operand) (argTypes : Array TypeId) : Option I :=
  (argTypes[0]?).bind fun t => (args[0]?).bind fun x => (args[1]?).bind fun y =>
  match P.underlying t with
  | some (.slice e) => (P.info? e).bind fun i => if 0 < i.size then some (.cpy o.dst i.size x y) else none
  | _ => none

def sameT : Operand → Operand → Bool
  | .tmp a, .tmp b => a == b
  | _, _ => false
theorem sameT_eq {x y : Operand} (h : sameT x y = true) : x = y := by
  cases x <;> cases y <;> simp [sameT] at h
  subst h; rfl

def cmpMks (P : Program) (o : Oper) (r : Nat) (t : TypeId) (x y : Operand) : Option I :=
  match P.underlying t with
  | some (.slice e) => (P.info? e).bind fun i => i.zero.bind fun z => if z.cells.size = i.size ∧ 0 < i.size ∧ 0 < i.bytes ∧ sameT x y = true ∧ z.cells.toList.all (·.oneCell') then some (.mks o.dst r i.size i.bytes (z.cells.toList.map .a) x) else none
  | _ => none

/-- Does the IR's operation stand for the program's? -/
def cmpI (P : Program) (o : Oper) (r : Nat) (ap : List Nat) : Option I :=
  match o.op with
  | .store t x v => (P.info? t).bind fun i => some (.store ap i.size x v)
  | .alloc t => (P.info? t).bind fun i => i.zero.bind fun z => if z.cells.size = i.size ∧ z.cells.toList.all (·.oneCell') then some (.alloc o.dst r i.size (z.cells.toList.map .a)) else none
  | .box t x => (P.info? t).bind fun i => some (.box o.dst r i.size x)
  | .buildSlice t len parts => cmpBsl P o r t len parts
  | .call c => match c.callee with
    | .value (.func f) => if okFunc P f then some (.call o.dst f c.args.toList) else none
    | .value fv => some (.callv o.dst fv c.args.toList)
    | .builtin b => if isApp b then cmpApp P o r ap c.args c.argTypes else if isClr b then cmpClr P o c.args c.argTypes else if isCpy b then cmpCpy P o c.args c.argTypes else (cmpL P o.op).map (.lt o.dst)
    | _ => none
  | .makeMap _ none => some (.mkm o.dst r)
  | .makeSlice t x y => cmpMks P o r t x y
  | .panic _ => some .pan
  | .mapUpdate t m k v => cmpMup P o ap t m k v
  | .insert t m k v => cmpMup P o ap t m k v
  | .range t x => cmpRng P o r t x
  | .next it str => if str then some (.nxt o.dst it) else none
  | _ => (cmpL P o.op).map (.lt o.dst)

/-- The same, of a call that changes what it is handed. -/
def cmpM (P : Program) (b : Nat × List Nat) (o : Oper) : Option I :=
  match o.op with
  | .buildSlice t len parts => cmpBsv P o t len parts
  | .call c => match c.callee with
    | .value fv => some (match b.1 with | 0 => .callm o.dst fv c.args.toList | 1 => .callb o.dst fv c.args.toList | 2 => .callo o.dst fv c.args.toList | _ => .calla b.2 o.dst fv c.args.toList)
    | _ => none
  | _ => none

section
variable {P : Program} {w : World} {β : Nat → Hd} {F : Nat → Prop} {N : Nat} {st : St} {a : Act}

/-- What comes behind an operation. -/
def Then (P : Program) (F : Nat → Prop) (N : Nat) (w : World) (st : St) (β : Nat → Hd) (k : St → Prop) : Act → World → Prop :=
  fun a' w' => ∃ β' st', (Adv F w st.hp β w' st'.hp β' ∧ Rel w' β' F N st' a' ∧ st.hp.length ≤ st'.hp.length) ∧ k st'

theorem upon_value {o : Oper} {v : Value} {w' : World} {s : Sem Value} {next : Act → World → Prop} {Q : Exit → Act → World → Prop}
    (hs : execOp a.eval o = (do pure (Next.value (← s)))) (hr : s.run P w = .ok v w') (h : next (a.put o.dst v) w') : o.wp P a w next Q := by
  unfold Oper.wp
  rw [hs]
  simp only [Sem.run_bind, hr, Result.andThen_ok, Sem.run_pure]
  exact h

theorem upon_skip {o : Oper} {w' : World} {s : Sem Unit} {next : Act → World → Prop} {Q : Exit → Act → World → Prop}
    (hs : execOp a.eval o = (do s; pure Next.skip)) (hr : s.run P w = .ok () w') (h : next (a.put o.dst undef) w') : o.wp P a w next Q := by
  unfold Oper.wp
  rw [hs]
  simp only [Sem.run_bind, hr, Result.andThen_ok, Sem.run_pure]
  exact h

theorem run_isLight {o : Oper} {l : L} (hR : Rel w β F N st a) (hc : cmpL P o.op = some l) (hd : ∀ t, o.dst = some t → t < N) {k : St → Prop} (h : (I.lt o.dst l).vc P k st) (Q : Exit → Act → World → Prop) :
    o.wp P a w (Then P F N w st β k) Q := by
  obtain ⟨h1, h2⟩ := h
  obtain ⟨v, e, r⟩ := L.sound hR hc h1
  unfold Oper.wp
  rw [e]
  have : (st.put o.dst (l.val st)).hp = st.hp := by unfold St.put; split <;> rfl
  refine ⟨β, _, ⟨?_, hR.put hd r, by rw [this]; exact Nat.le_refl _⟩, h2⟩
  rw [this]
  exact ⟨hR.hok, .refl _, .refl _ _⟩

theorem put_hp (st : St) (d : Option Nat) (x : V) : (st.put d x).hp = st.hp := by unfold St.put; split <;> rfl

theorem sound_store {o : Oper} {t : TypeId} {x v : Operand} {i : TypeInfo} {ap : List Nat} (hR : Rel w β F N st a) (ho : o.op = .store t x v) (hi : P.info? t = some i) (hd : o.dst = none) {k : St → Prop}
    (h : (I.store ap i.size x v).vc P k st) (Q : Exit → Act → World → Prop) : o.wp P a w (Then P F N w st β k) Q := by
  have hk := hR.hok
  simp only [I.vc] at h
  split at h
  · next id tot i0 j e =>
    split at h
    · next refs rows hgd =>
      obtain ⟨_, p1, p2, p3, p4, p5⟩ := h
      have hid : st.hp[id]? = some (.mem false refs rows) := by
        cases hq : st.hp[id]? with
        | none => simp [List.getD, hq] at hgd
        | some o => rw [getD_some hq] at hgd; rw [hgd]
      have hx := hR.ev x
      rw [e] at hx
      cases hx' : a.eval x with
      | _ => ?_
      all_goals
        rw [hx'] at hx
        cases hx with
        | ptr hl h =>
        obtain ⟨g1, g2⟩ := h ((β id).wt rows.length) (by show hdOf st.hp β id = _; simp [hdOf, hid])
        obtain ⟨g3, g4, g5⟩ := g2 p1
        obtain ⟨s1, s2, s3, s4⟩ := (hR.ev v).sized hk p4
        obtain ⟨w', r1, r2⟩ := wr_mem (P := P) (id := id) (i := i0) (j := j) (xs := (st.ev v).cells) (vs := (a.eval v).cells.toList) hk hid (get_of_getD (d := []) (by omega)) g3 (by rw [s2]; exact p3) (by simp [s1, s2])
          (fun u hu => by obtain ⟨q, hq⟩ := List.getElem?_of_mem hu; exact s4 q u (by simpa using hq)) (fun q u y hu hy => s3 q u y (by simpa using hu) hy)
        refine upon_skip (s := Instr.storeAt t (a.eval x) (a.eval v)) (by obtain ⟨dst, op, ty, pos, af, gu⟩ := o; simp only at ho; subst ho; rfl) (w' := w') ?_ ⟨β, _, ⟨r2, ?_, by simp⟩, p5⟩
        · rw [hx', g5]
          simp only [Instr.storeAt, Instr.sureAddr, storeVar, Sem.run_bind, Sem.run_pure, Result.andThen_ok, run_sizeOf' hi]
          rw [if_neg (by rw [s1]; simp)]
          exact r1
        · rw [hd]; exact hR.adv r2
    · exact h.elim
  · exact h.elim

theorem fresh_ptr {H : Heap} {id es n : Nat} {refs : List Nat} {rows : List (List V)} {b : Nat} (hid : H[id]? = some .res) {hp : Array Obj} {F : Nat → Prop} {β : Nat → Hd} (hn : rows.length = n) :
    RV (cx hp (H.set id (.mem false refs rows)) (upd β id ⟨b, 0, n, es, 0, false, 0, noSub⟩) F) (.pointer (some ⟨b, 0, none⟩)) (.ptr id n 0 0) := by
  refine .ptr ⟨_, get_set hid, by simp⟩ fun h e => ?_
  have e1 : hdOf (H.set id (.mem false refs rows)) (upd β id ⟨b, 0, n, es, 0, false, 0, noSub⟩) id = some ((upd β id ⟨b, 0, n, es, 0, false, 0, noSub⟩ id).wt rows.length) := by
    unfold hdOf; rw [get_set hid]
  have e2 : some h = some ((upd β id ⟨b, 0, n, es, 0, false, 0, noSub⟩ id).wt rows.length) := e.symm.trans e1
  injection e2 with e2
  subst e2
  rw [upd_same]
  exact ⟨by show n ≤ rows.length; omega, fun _ => ⟨Nat.zero_le _, rfl, by simp [Hd.wt]⟩⟩

theorem fresh_own {H : Heap} {id es n : Nat} {refs : List Nat} {rows : List (List V)} {b : Nat} (hid : H[id]? = some .res) {hp : Array Obj} {F : Nat → Prop} {β : Nat → Hd} (hn : rows.length = n) :
    RV (cx hp (H.set id (.mem false refs rows)) (upd β id ⟨b, 0, n, es, 0, false, 0, noSub⟩) F) (.slice (some ⟨b, 0, none⟩) n n) (.own id es 0 n n) := by
  refine .own ⟨_, get_set hid, by simp⟩ fun h e => ?_
  have e1 : hdOf (H.set id (.mem false refs rows)) (upd β id ⟨b, 0, n, es, 0, false, 0, noSub⟩) id = some ((upd β id ⟨b, 0, n, es, 0, false, 0, noSub⟩ id).wt rows.length) := by
    unfold hdOf; rw [get_set hid]
  have e2 : some h = some ((upd β id ⟨b, 0, n, es, 0, false, 0, noSub⟩ id).wt rows.length) := e.symm.trans e1
  injection e2 with e2
  subst e2
  rw [upd_same]
  exact ⟨by show n ≤ rows.length; omega, fun _ => ⟨Nat.zero_le _, rfl, .inr ⟨rfl, _, rfl, by show 0 + n ≤ rows.length; omega, fun _ => by simp [Hd.wt]⟩⟩⟩

theorem sound_alloc {o : Oper} {t : TypeId} {i : TypeInfo} {z : Value} {r : Nat} (hR : Rel w β F N st a) (ho : o.op = .alloc t) (hi : P.info? t = some i) (hz : i.zero = some z) (hsz : z.cells.size = i.size)
    (hone : z.cells.toList.all (·.oneCell')) (hd : ∀ t, o.dst = some t → t < N) {k : St → Prop} (h : (I.alloc o.dst r i.size (z.cells.toList.map .a)).vc P k st) (Q : Exit → Act → World → Prop) :
    o.wp P a w (Then P F N w st β k) Q := by
  have hk := hR.hok
  obtain ⟨p1, p2, p3⟩ := h
  have hone' : ∀ (i : Nat) (u : Value), z.cells[i]? = some u → u.oneCell' = true := fun i u hu => List.all_eq_true.1 hone u (by simpa using Array.mem_of_getElem? hu)
  have adv := new_mem (es := z.cells.size) (refs := []) (rows := [z.cells.toList.map V.a]) (cs := z.cells) (E := t) hk p1 (by simp) (fun i row hi => by
      cases i with
      | zero => simp at hi; subst hi; simp
      | succ i => simp at hi) (fun i row j x hi hj => by
      cases i with
      | zero =>
        simp at hi; subst hi
        have hj' : j < z.cells.size := by simpa using lt_of_get hj
        have hu := Array.getElem?_eq_getElem hj'
        refine ⟨z.cells[j], by simpa using hu, hone' _ _ hu, ?_⟩
        simp only [List.getElem?_map, Array.getElem?_toList, hu, Option.map_some, Option.some.injEq] at hj
        subst hj
        exact .a
      | succ i => simp at hi)
  refine upon_value (s := Instr.alloc t true (.tuple #[])) (by obtain ⟨dst, op, ty, pos, af, gu⟩ := o; simp only at ho; subst ho; rfl) (v := .pointer (some ⟨w.heap.size, 0, none⟩)) (w' := { w with heap := w.heap.push (.cells z.cells t) }) ?_
    ⟨_, _, ⟨by rw [put_hp]; exact adv, (hR.adv adv).put hd ?_, by rw [put_hp]; simp⟩, p3⟩
  · simp [Instr.alloc, run_zeroValue' hi hz, newVar, newRow]
  · exact fresh_ptr p1 rfl

theorem sound_box {o : Oper} {t : TypeId} {x : Operand} {i : TypeInfo} {r : Nat} (hR : Rel w β F N st a) (ho : o.op = .box t x) (hi : P.info? t = some i)
    (hd : ∀ t, o.dst = some t → t < N) {k : St → Prop} (h : (I.box o.dst r i.size x).vc P k st) (Q : Exit → Act → World → Prop) :
    o.wp P a w (Then P F N w st β k) Q := by
  have hk := hR.hok
  obtain ⟨p1, p2, p3⟩ := h
  obtain ⟨s1, s2, s3, s4⟩ := (hR.ev x).sized hk p2
  have adv := new_mem (es := (a.eval x).cells.size) (refs := V.idsL (st.ev x).cells) (rows := [(st.ev x).cells]) (cs := (a.eval x).cells) (E := t) hk p1 (by simp) (fun i row hi => by
      cases i with
      | zero => simp at hi; subst hi; rw [s1, s2]
      | succ i => simp at hi) (fun i row j y hi hj => by
      cases i with
      | zero =>
        simp at hi; subst hi
        have hj' : j < (a.eval x).cells.size := by rw [s1, ← s2]; exact lt_of_get hj
        have hu := Array.getElem?_eq_getElem hj'
        exact ⟨_, by simpa using hu, s4 _ _ hu, (s3 _ _ _ hu hj).onlyOf _ fun q hq => idsL_mem hj hq⟩
      | succ i => simp at hi)
  refine upon_value (s := Instr.box t (a.eval x)) (by obtain ⟨dst, op, ty, pos, af, gu⟩ := o; simp only at ho; subst ho; rfl) (v := .pointer (some ⟨w.heap.size, 0, none⟩)) (w' := { w with heap := w.heap.push (.cells (a.eval x).cells t) }) ?_
    ⟨_, _, ⟨by rw [put_hp]; exact adv, (hR.adv adv).put hd ?_, by rw [put_hp]; simp⟩, p3⟩
  · simp [Instr.box, newVar, newRow]
  · exact fresh_ptr p1 rfl

theorem noF_own (F : Nat → Prop) (β : Nat → Hd) (b : Nat) : ¬ owned [] β b := by
  rintro ⟨id, h⟩; simp [ownsB] at h

/-- A call of what owns nothing. -/
theorem sound_DP {f : FuncId} {xs : List V} {vs : Array Value} (hR : Rel w β F N st a) (hr : RVs (cx w.heap st.hp β F) vs xs) (hids : V.idsL xs = []) {K : V → Prop} (h : DP P f xs K) :
    Calls P f vs w fun e w' => ∃ r x, e = .returned r ∧ Adv F w st.hp β w' st.hp β ∧ RV (cx w'.heap st.hp β F) r x ∧ K x := by
  have hk := hR.hok
  have hF : HOK w.heap [] β (fun b => owned st.hp β b ∨ F b) := by
    refine ⟨fun id o h => by simp at h, fun id id' b h => by simp [ownsB] at h, fun b hb => ⟨?_, noF_own F β b⟩⟩
    rcases hb with hb | hb
    · exact hk.lt hb
    · exact (hk.far b hb).1
  refine (h w β (fun b => owned st.hp β b ∨ F b) vs hF ⟨hr.1, fun i v x hv hx => ?_⟩).mono fun e w' hres => ?_
  · have h1 := (hr.2 i v x hv hx).onlyOf [] fun k hk' => by have := idsL_mem hx hk'; rw [hids] at this; exact this
    refine (h1.strip (c' := cx w.heap [] β (fun b => owned st.hp β b ∨ F b)) (Nat.le_refl _) fun b hb hn => ⟨rfl, fun e => ?_⟩).up
    rcases e with e | e
    · exact noF_own F β b e
    · exact hn e
  · obtain ⟨r, x, H', β', rfl, adv, hr', hP, hK⟩ := hres
    have hblk : ∀ b, b < w.heap.size → w'.heap[b]? = w.heap[b]? := fun b hb => adv.ext.block b hb (noF_own F β b)
    have hle : (cx w.heap st.hp β F).le (cx w'.heap st.hp β F) := ⟨adv.ext.size, fun b hb hn => ⟨hblk b hb, hn⟩, fun _ h => h, fun _ _ _ e => .inl e⟩
    have hok' : HOK w'.heap st.hp β F := by
      refine ⟨fun id o hid => ?_, hk.one, fun b hb => ⟨Nat.lt_of_lt_of_le (hk.far b hb).1 adv.ext.size, (hk.far b hb).2⟩⟩
      have hro := hk.ro id o hid
      cases o with
      | res => trivial
      | dead => trivial
      | mem fz refs rows =>
        rcases hro with hro | ⟨q1, q2, q3, q4, q5, cs, E, fr, q6, q7⟩
        · exact .inl hro
        · exact RO.mono (.inr ⟨q1, q2, q3, q4, q5, cs, E, fr, q6, q7⟩) hle (hblk _ (hp_lt q6)) (fun hn => hn) fun _ _ e => by cases e
      | map fz refs es =>
        obtain ⟨q1, ents, clock, q2, q3⟩ := hro
        exact RO.mono (o := .map fz refs es) ⟨q1, ents, clock, q2, q3⟩ hle (hblk _ (hp_lt q2)) (fun hn => hn) fun _ _ e => by cases e
      | sit s pos => exact RO.mono (o := .sit s pos) hro hle (hblk _ (hp_lt hro.2.2.2.2)) (fun hn => hn) fun _ _ e => by cases e
      | tree refs rows =>
        rcases hro with hro | ⟨q1, q2, q3, q4⟩
        · exact .inl hro
        · exact RO.mono (o := .tree refs rows) (.inr ⟨q1, q2, q3, q4⟩) hle (hblk _ (q4.1.lt _ (.inl rfl))) (fun hn => hn) fun _ _ _ _ b e => hblk b (q4.1.lt b (.inr e))
    refine ⟨r, x.fz H', rfl, ⟨hok', hle, adv.ext.os, adv.ext.tape, adv.ext.output, adv.ext.size, fun b hb _ => hblk b hb⟩, ?_, hK⟩
    have hz := RV.fz (l := x.ids) adv.hok hr' rfl hP fun i hi => hi
    have adv2 := adv_fzL (F := fun b => owned st.hp β b ∨ F b) (w := w') (β := β') x.ids adv.hok
    refine (hz.strip (c' := cx w'.heap st.hp β F) (Nat.le_refl _) fun b hb hn => ⟨rfl, fun e => hn ?_⟩).up
    exact .inr e

/-- A call that is lent objects. -/
theorem sound_DPb {f : FuncId} {xs : List V} {vs : Array Value} (hR : Rel w β F N st a) (hr : RVs (cx w.heap st.hp β F) vs xs) (hids : V.fzPL st.hp xs) {K : V → Prop} (h : DP P f (V.fzL st.hp xs) fun r => r.flat = true ∧ K r) :
    Calls P f vs w fun e w' => ∃ r x, e = .returned r ∧ Adv F w st.hp β w' st.hp β ∧ RV (cx w'.heap st.hp β F) r x ∧ K x := by
  have hk0 := hR.hok
  have hk := (adv_fzL (F := F) (w := w) (β := β) (V.idsL xs) hk0).hok
  have hF : HOK w.heap [] β (fun b => owned (st.hp.fz (V.idsL xs)) β b ∨ F b) := by
    refine ⟨fun id o h => by simp at h, fun id id' b h => by simp [ownsB] at h, fun b hb => ⟨?_, noF_own F β b⟩⟩
    rcases hb with hb | hb
    · exact hk.lt hb
    · exact (hk.far b hb).1
  refine (h w β (fun b => owned (st.hp.fz (V.idsL xs)) β b ∨ F b) vs hF ⟨by rw [fzL_length]; exact hr.1, fun i v x hv hx => ?_⟩).mono fun e w' hres => ?_
  · rw [fzL_get] at hx
    simp only [Option.map_eq_some_iff] at hx
    obtain ⟨y, hy, rfl⟩ := hx
    have h1 := RV.fz (l := V.idsL xs) hk0 (hr.2 i v y hv hy) rfl (fzPL_get hids hy) fun k hk' => idsL_mem hy hk'
    refine (h1.strip (c' := cx w.heap [] β (fun b => owned (st.hp.fz (V.idsL xs)) β b ∨ F b)) (Nat.le_refl _) fun b hb hn => ⟨rfl, fun e => ?_⟩).up
    rcases e with e | e
    · exact noF_own F β b e
    · exact hn e
  · obtain ⟨r, x, H', β', rfl, adv, hr', hP, hK⟩ := hres
    have hblk : ∀ b, b < w.heap.size → w'.heap[b]? = w.heap[b]? := fun b hb => adv.ext.block b hb (noF_own F β b)
    have hle : (cx w.heap st.hp β F).le (cx w'.heap st.hp β F) := ⟨adv.ext.size, fun b hb hn => ⟨hblk b hb, hn⟩, fun _ h => h, fun _ _ _ e => .inl e⟩
    have hk := hk0
    have hok' : HOK w'.heap st.hp β F := by
      refine ⟨fun id o hid => ?_, hk.one, fun b hb => ⟨Nat.lt_of_lt_of_le (hk.far b hb).1 adv.ext.size, (hk.far b hb).2⟩⟩
      have hro := hk.ro id o hid
      cases o with
      | res => trivial
      | dead => trivial
      | mem fz refs rows =>
        rcases hro with hro | ⟨q1, q2, q3, q4, q5, cs, E, fr, q6, q7⟩
        · exact .inl hro
        · exact RO.mono (.inr ⟨q1, q2, q3, q4, q5, cs, E, fr, q6, q7⟩) hle (hblk _ (hp_lt q6)) (fun hn => hn) fun _ _ e => by cases e
      | map fz refs es =>
        obtain ⟨q1, ents, clock, q2, q3⟩ := hro
        exact RO.mono (o := .map fz refs es) ⟨q1, ents, clock, q2, q3⟩ hle (hblk _ (hp_lt q2)) (fun hn => hn) fun _ _ e => by cases e
      | sit s pos => exact RO.mono (o := .sit s pos) hro hle (hblk _ (hp_lt hro.2.2.2.2)) (fun hn => hn) fun _ _ e => by cases e
      | tree refs rows =>
        rcases hro with hro | ⟨q1, q2, q3, q4⟩
        · exact .inl hro
        · exact RO.mono (o := .tree refs rows) (.inr ⟨q1, q2, q3, q4⟩) hle (hblk _ (q4.1.lt _ (.inl rfl))) (fun hn => hn) fun _ _ _ _ b e => hblk b (q4.1.lt b (.inr e))
    refine ⟨r, x.fz H', rfl, ⟨hok', hle, adv.ext.os, adv.ext.tape, adv.ext.output, adv.ext.size, fun b hb _ => hblk b hb⟩, ?_, hK.2⟩
    have hz := RV.fz (l := x.ids) adv.hok hr' rfl hP fun i hi => hi
    exact hz.flat hK.1

end
end Go.Abs

/- Slices that are made, and laid on. -/
namespace Go.Abs
set_option linter.unusedVariables false

theorem chunk_get {es : Nat} : ∀ (n : Nat) (l : List V) (i : Nat) (row : List V), (chunk es n l)[i]? = some row → row = (l.drop (i * es)).take es ∧ i < n := by
  intro n
  induction n with
  | zero => intro l i row h; simp [chunk] at h
  | succ n ih =>
    intro l i row h
    cases i with
    | zero => simp [chunk] at h; subst h; simp
    | succ i =>
      simp only [chunk, List.getElem?_cons_succ] at h
      obtain ⟨h1, h2⟩ := ih _ _ _ h
      refine ⟨?_, by omega⟩
      rw [h1, List.drop_drop]
      congr 2
      rw [Nat.add_mul]; omega

theorem chunk_length {es : Nat} : ∀ (n : Nat) (l : List V), (chunk es n l).length = n := by
  intro n
  induction n with
  | zero => intro l; rfl
  | succ n ih => intro l; simp [chunk, ih]

theorem flatten_replicate_get {α : Type} (z : List α) : ∀ (n k : Nat), k < n * z.length → (List.flatten (List.replicate n z))[k]? = z[k % z.length]? := by
  intro n
  induction n with
  | zero => intro k h; simp at h
  | succ n ih =>
    intro k h
    rw [List.replicate_succ, List.flatten_cons, List.getElem?_append]
    by_cases hk : k < z.length
    · rw [if_pos hk, Nat.mod_eq_of_lt hk]
    · rw [if_neg hk, ih _ (by rw [Nat.add_mul] at h; omega)]
      congr 1
      rw [← Nat.mod_eq_sub_mod (by omega)]

theorem fillV_length : ∀ (ps : List (Nat × Nat × V)) (cs : List V), (∀ p ∈ ps, p.1 + p.2.2.cells.length ≤ cs.length) → (fillV cs ps).length = cs.length := by
  intro ps
  induction ps with
  | nil => intro cs _; rfl
  | cons p ps ih =>
    intro cs h
    have h0 := h p (by simp)
    have hl : (cs.take p.1 ++ p.2.2.cells ++ cs.drop (p.1 + p.2.2.cells.length)).length = cs.length := by simp; omega
    simp only [fillV]
    rw [ih _ fun q hq => by rw [hl]; exact h q (by simp [hq]), hl]

section
variable {P : Program} {w : World} {β : Nat → Hd} {F : Nat → Prop} {N : Nat} {st : St} {a : Act}

theorem sound_bsl {o : Oper} {t e : TypeId} {len : Nat} {parts : Array (Nat × Operand)} {i : TypeInfo} {z : Value} {r : Nat} (hR : Rel w β F N st a) (ho : o.op = .buildSlice t len parts)
    (hu : P.underlying t = some (.slice e)) (hi : P.info? e = some i) (hz : i.zero = some z) (hsz : z.cells.size = i.size) (hpos : 0 < i.size) (hsmall : len * i.size ≤ 16777216) (hone : z.cells.toList.all (·.oneCell'))
    (hd : ∀ t, o.dst = some t → t < N) {k : St → Prop} (h : (I.bsl o.dst r i.size len (z.cells.toList.map .a) parts.toList).vc P k st) (Q : Exit → Act → World → Prop) :
    o.wp P a w (Then P F N w st β k) Q := by
  have hk := hR.hok
  obtain ⟨p1, p2, p3, p4⟩ := h
  have hone' : ∀ (i : Nat) (u : Value), z.cells[i]? = some u → u.oneCell' = true := fun i u hu => List.all_eq_true.1 hone u (by simpa using Array.mem_of_getElem? hu)
  have hzp : 0 < z.cells.size := by rw [hsz]; exact hpos
  have base : ∀ (k : Nat) (u : Value), ((Array.range (len * i.size)).map (z.cells[· % z.cells.size]!))[k]? = some u → k < len * i.size ∧ z.cells[k % z.cells.size]? = some u := by
    intro k u hk'
    simp only [Array.getElem?_map, Option.map_eq_some_iff] at hk'
    obtain ⟨q, hq, rfl⟩ := hk'
    obtain ⟨hlt, hq⟩ := Array.getElem?_eq_some_iff.1 hq
    simp at hlt hq
    subst hq
    refine ⟨hlt, ?_⟩
    have := Nat.mod_lt k hzp
    rw [getElem!_pos z.cells _ this]
    exact Array.getElem?_eq_getElem this
  have hfl : (List.flatten (List.replicate len (z.cells.toList.map V.a))).length = len * i.size := by simp [hsz]
  obtain ⟨vs, h1, h2, h3, h4⟩ := run_fill (c := cx w.heap st.hp β F) (fun k => some (k * i.size, i.size)) (parts.toList.map fun p => (p.1, a.eval p.2)) (parts.toList.map fun p => (p.1 * i.size, i.size, st.ev p.2))
    ((Array.range (len * i.size)).map (z.cells[· % z.cells.size]!)) (List.flatten (List.replicate len (z.cells.toList.map V.a)))
    (by rw [hfl]; simp) (fun k u y hu hy => by
      obtain ⟨b1, b2⟩ := base k u hu
      rw [flatten_replicate_get _ _ _ (by simpa [hsz] using b1)] at hy
      simp only [List.length_map, Array.length_toList, List.getElem?_map, Array.getElem?_toList, b2, Option.map_some, Option.some.injEq] at hy
      subst hy
      exact .a) (by simp) (fun j q p hq hp' => by
      simp only [List.getElem?_map, Option.map_eq_some_iff] at hq hp'
      obtain ⟨q0, hq0, rfl⟩ := hq
      obtain ⟨p0, hp0, rfl⟩ := hp'
      rw [hq0] at hp0; injection hp0 with hp0; subst hp0
      obtain ⟨g1, g2⟩ := p3 q0 (List.mem_of_getElem? hq0)
      obtain ⟨s1, s2, s3, s4⟩ := (hR.ev q0.2).sized hk g1
      refine ⟨rfl, s1, s2, ?_, s3, s4⟩
      rw [hfl]
      have : (q0.1 + 1) * i.size ≤ len * i.size := Nat.mul_le_mul_right _ g2
      rw [Nat.add_mul] at this
      simp only; omega) (fun k u hu => hone' _ _ (base k u hu).2)
  generalize hxs : fillV (List.flatten (List.replicate len (z.cells.toList.map V.a))) (parts.toList.map fun (p : Nat × Operand) => (p.1 * i.size, i.size, st.ev p.2)) = xs at *
  have hlen : xs.length = len * i.size := by
    rw [← hxs, fillV_length _ _ fun p hp => ?_, hfl]
    obtain ⟨q0, hq0, rfl⟩ := List.mem_map.1 hp
    obtain ⟨g1, g2⟩ := p3 q0 hq0
    obtain ⟨s1, s2, s3, s4⟩ := (hR.ev q0.2).sized hk g1
    rw [hfl]
    have : (q0.1 + 1) * i.size ≤ len * i.size := Nat.mul_le_mul_right _ g2
    rw [Nat.add_mul] at this
    simp only; omega
  have adv := new_mem (es := i.size) (refs := V.idsL xs) (rows := chunk i.size len xs) (cs := vs) (E := e) hk p1 (by rw [chunk_length, h2, hlen]) (fun k row hk' => by
      obtain ⟨e1, e2⟩ := chunk_get _ _ _ _ hk'
      rw [e1]; simp [hlen]
      have : (k + 1) * i.size ≤ len * i.size := Nat.mul_le_mul_right _ e2
      rw [Nat.add_mul] at this
      omega) (fun k row j y hk' hj => by
      obtain ⟨e1, e2⟩ := chunk_get _ _ _ _ hk'
      rw [e1, List.getElem?_take] at hj
      split at hj
      · rw [List.getElem?_drop] at hj
        have hlt : k * i.size + j < vs.size := by rw [h2]; exact lt_of_get hj
        have hu := Array.getElem?_eq_getElem hlt
        exact ⟨_, hu, h4 _ _ hu, (h3 _ _ _ hu hj).onlyOf _ fun q hq => idsL_mem hj hq⟩
      · cases hj)
  refine upon_value (s := Instr.buildSlice t len (parts.map fun (i, x) => (i, a.eval x))) (by obtain ⟨dst, op, ty, pos, af, gu⟩ := o; simp only at ho; subst ho; rfl) (v := .slice (some ⟨w.heap.size, 0, none⟩) len len) (w' := { w with heap := w.heap.push (.cells vs e) }) ?_
    ⟨_, _, ⟨by rw [put_hp]; exact adv, (hR.adv adv).put hd ?_, by rw [put_hp]; simp⟩, p4⟩
  · have hp1 : (parts.map fun x => (x.1, a.eval x.2)).toList = parts.toList.map fun p => (p.1, a.eval p.2) := by simp
    simp only [Instr.buildSlice, Sem.run_bind, run_underlying' hu, run_sizeOf' hi, Result.andThen_ok, run_zeroValue' hi hz]
    rw [if_neg (by omega)]
    by_cases h0 : len * i.size = 0
    · rw [if_pos h0]
      have e0 : (Array.range (len * i.size)).map (((#[] : Array Value))[· % ((#[] : Array Value)).size]!) = (Array.range (len * i.size)).map (z.cells[· % z.cells.size]!) := by
        simp [h0]
      simp only [Sem.run_bind, Result.andThen_ok, Sem.run_pure, hp1, e0, h1, newRow, run_newObj]
    · rw [if_neg h0]
      simp only [Sem.run_bind, run_zeroValue' hi hz, Result.andThen_ok, Sem.run_pure, hp1, h1, newRow, run_newObj]
  · have := fresh_own (es := i.size) (refs := V.idsL xs) (b := w.heap.size) p1 (hp := w.heap.push (.cells vs e)) (F := F) (β := β) (chunk_length (es := i.size) len xs)
    rw [chunk_length] 
    exact this

end
end Go.Abs
