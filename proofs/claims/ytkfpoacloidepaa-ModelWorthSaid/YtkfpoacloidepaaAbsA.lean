import Derived.Calls
import Derived.Laws.Sem
import Derived.Below
set_option linter.all false
/- Abstract values: lists instead of addresses; ids for what may still be written. -/
namespace Go.Abs

/-- An abstract value. -/
inductive V where
  | any                                            -- nothing is known
  | a (v : Value)                                  -- just this value
  | ptr (id tot i j : Nat)                         -- the address of cell j of row i of object id
  | own (id es off len tot : Nat)                  -- a slice of object id: rows off .. off+len-1
  | ref (row : List V) (j : Nat)                   -- the address of cell j of a row that is never written again
  | view (es : Nat) (rows : List (List V))         -- a slice that is never written again; nil or not, if it is empty
  | agg (cs : List V)
  | tup (vs : List V)
  | fn (f : Fn) (first captured : List V)
  | mp (id : Nat)
  | mview (es : List (V × V))                      -- a map that is never written again
  | ifc (t : TypeId) (v : V)
  deriving Inhabited

/-- Where an object lies: its block, its first cell, how many rows there is room for, a row's cells, the first row that is there; rows in all. -/
structure Hd where
  b : Nat
  o : Nat
  cap : Nat
  es : Nat
  lo : Nat
  nil : Bool
  tot : Nat

def Hd.wt (h : Hd) (n : Nat) : Hd := ⟨h.b, h.o, h.cap, h.es, h.lo, h.nil, n⟩

structure Cx where
  hp : Array Obj
  own : Nat → Prop
  live : Nat → Prop
  hd : Nat → Option Hd

def look (h : Array Obj) (b o : Nat) : Option Value :=
  match h[b]? with
  | some (.cells c _ _) => c[o]?
  | _ => none

def Cx.only (c : Cx) (refs : List Nat) : Cx := { c with live := fun i => i ∈ refs ∧ c.live i }

/-- A slice's value, by its object's place. -/
def Hd.slice (h : Hd) (off len : Nat) (v : Value) : Prop :=
  (h.nil = true ∧ v = .slice none 0 0 ∧ len = 0) ∨
  (h.nil = false ∧ ∃ ad, v = .slice (some ad) len (h.cap - (off - h.lo)) ∧ off + len ≤ h.tot ∧ (off - h.lo < h.cap → ad = ⟨h.b, h.o + (off - h.lo) * h.es, none⟩))

inductive RV : Cx → Value → V → Prop where
  | any {c : Cx} {v : Value} : RV c v .any
  | a {c : Cx} {v : Value} : RV c v (.a v)
  | ptr {c : Cx} {v : Value} {id tot i j : Nat} (hl : c.live id) (h : ∀ h, c.hd id = some h → tot ≤ h.tot ∧ (h.tot = tot → h.lo ≤ i ∧ h.nil = false ∧ v = .pointer (some ⟨h.b, h.o + (i - h.lo) * h.es + j, none⟩))) : RV c v (.ptr id tot i j)
  | own {c : Cx} {v : Value} {id es off len tot : Nat} (hl : c.live id) (h : ∀ h, c.hd id = some h → tot ≤ h.tot ∧ (h.tot = tot → h.lo ≤ off ∧ h.es = es ∧ h.slice off len v)) : RV c v (.own id es off len tot)
  | ref {c : Cx} {row : List V} {j b o : Nat} (g : Nat → Value) (hb : ¬ c.own b) (hs : b < c.hp.size)
      (hg : ∀ (k : Nat) (x : V), row[k]? = some x → look c.hp b (o + k) = some (g k) ∧ (g k).oneCell' = true) (hr : ∀ (k : Nat) (x : V), row[k]? = some x → RV (c.only []) (g k) x) :
      RV c (.pointer (some ⟨b, o + j, none⟩)) (.ref row j)
  | nilv {c : Cx} {es : Nat} : RV c (.slice none 0 0) (.view es [])
  | view {c : Cx} {es : Nat} {rows : List (List V)} {ad : Addr} {cap : Nat} (g : Nat → Nat → Value)
      (hb : rows ≠ [] → ¬ c.own ad.block ∧ ad.block < c.hp.size ∧ ad.spot = none) (hcap : rows.length ≤ cap) (hlen : ∀ (i : Nat) (row : List V), rows[i]? = some row → row.length = es)
      (hg : ∀ (i : Nat) (row : List V), rows[i]? = some row → ∀ (j : Nat) (x : V), row[j]? = some x → look c.hp ad.block (ad.off + i * es + j) = some (g i j) ∧ (g i j).oneCell' = true)
      (hr : ∀ (i : Nat) (row : List V), rows[i]? = some row → ∀ (j : Nat) (x : V), row[j]? = some x → RV (c.only []) (g i j) x) :
      RV c (.slice (some ad) rows.length cap) (.view es rows)
  | agg {c : Cx} {vs : Array Value} {cs : List V} (hl : vs.size = cs.length) (h1 : ∀ (i : Nat) (v : Value), vs[i]? = some v → v.oneCell' = true) (h : ∀ (i : Nat) (v : Value) (x : V), vs[i]? = some v → cs[i]? = some x → RV c v x) : RV c (.agg vs) (.agg cs)
  | tup {c : Cx} {vs : Array Value} {cs : List V} (hl : vs.size = cs.length) (h : ∀ (i : Nat) (v : Value) (x : V), vs[i]? = some v → cs[i]? = some x → RV c v x) : RV c (.tuple vs) (.tup cs)
  | fn {c : Cx} {f : Fn} {fs cp : Array Value} {xs ys : List V} (hl : fs.size = xs.length) (hl' : cp.size = ys.length)
      (h : ∀ (i : Nat) (v : Value) (x : V), fs[i]? = some v → xs[i]? = some x → RV c v x) (h' : ∀ (i : Nat) (v : Value) (x : V), cp[i]? = some v → ys[i]? = some x → RV c v x) : RV c (.func f fs cp) (.fn f xs ys)
  | mp {c : Cx} {v : Value} {id : Nat} (hl : c.live id) (h : ∀ h, c.hd id = some h → h.tot = 0 → v = .map (some h.b)) : RV c v (.mp id)
  | mview {c : Cx} {b clock : Nat} {ents : Array MapEntry} {es : List (V × V)} (hb : ¬ c.own b) (hm : c.hp[b]? = some (.map ents clock)) (hl : ents.size = es.length)
      (hk : ∀ (i : Nat) (e : MapEntry) (x : V × V), ents[i]? = some e → es[i]? = some x → RV (c.only []) e.key x.1)
      (hv : ∀ (i : Nat) (e : MapEntry) (x : V × V), ents[i]? = some e → es[i]? = some x → RV (c.only []) e.val x.2) : RV c (.map (some b)) (.mview es)
  | ifc {c : Cx} {t : TypeId} {v : Value} {x : V} (h : RV c v x) : RV c (.iface t v) (.ifc t x)

/-- What still holds in the one holds in the other. -/
structure Cx.le (c c' : Cx) : Prop where
  size : c.hp.size ≤ c'.hp.size
  same : ∀ b, b < c.hp.size → ¬ c.own b → c'.hp[b]? = c.hp[b]? ∧ ¬ c'.own b
  live : ∀ id, c.live id → c'.live id
  hd : ∀ id h', c.live id → c'.hd id = some h' → c.hd id = some h' ∨ ∃ h, c.hd id = some h ∧ h.tot < h'.tot

theorem Cx.le.only {c c' : Cx} (h : c.le c') (refs : List Nat) : (c.only refs).le (c'.only refs) :=
  ⟨h.size, h.same, fun id hl => ⟨hl.1, h.live id hl.2⟩, fun id h' hl => h.hd id h' hl.2⟩

theorem look_same {h h' : Array Obj} {b o : Nat} (e : h'[b]? = h[b]?) : look h' b o = look h b o := by
  unfold look; rw [e]

theorem RV.mono {c c' : Cx} {v : Value} {x : V} (hr : RV c v x) (hc : c.le c') : RV c' v x := by
  induction hr generalizing c' with
  | any => exact .any
  | a => exact .a
  | ptr hl h =>
    refine .ptr (hc.live _ hl) fun h' e => ?_
    rcases hc.hd _ _ hl e with e | ⟨h0, e, hlt⟩
    · exact h _ e
    · have := h _ e
      exact ⟨by omega, fun e2 => by omega⟩
  | own hl h =>
    refine .own (hc.live _ hl) fun h' e => ?_
    rcases hc.hd _ _ hl e with e | ⟨h0, e, hlt⟩
    · exact h _ e
    · have := h _ e
      exact ⟨by omega, fun e2 => by omega⟩
  | ref g hb hs hg hr ih =>
    obtain ⟨h1, h2⟩ := hc.same _ hs hb
    exact .ref g h2 (Nat.lt_of_lt_of_le hs hc.size) (fun k x hk => by rw [look_same h1]; exact hg k x hk) fun k x hk => ih k x hk (hc.only [])
  | nilv => exact .nilv
  | view g hb hcap hlen hg hr ih =>
    refine .view g (fun hne => ?_) hcap hlen (fun i row hi j x hj => ?_) fun i row hi j x hj => ih i row hi j x hj (hc.only [])
    · obtain ⟨q1, q2, q3⟩ := hb hne
      exact ⟨(hc.same _ q2 q1).2, Nat.lt_of_lt_of_le q2 hc.size, q3⟩
    · obtain ⟨q1, q2, q3⟩ := hb (by rintro rfl; simp at hi)
      rw [look_same (hc.same _ q2 q1).1]; exact hg i row hi j x hj
  | agg hl ho h ih => exact .agg hl ho fun i v x h1 h2 => ih i v x h1 h2 hc
  | tup hl h ih => exact .tup hl fun i v x h1 h2 => ih i v x h1 h2 hc
  | fn hl hl' h h' ih ih' => exact .fn hl hl' (fun i v x h1 h2 => ih i v x h1 h2 hc) fun i v x h1 h2 => ih' i v x h1 h2 hc
  | mp hl h =>
    refine .mp (hc.live _ hl) fun h' e => ?_
    rcases hc.hd _ _ hl e with e | ⟨h0, e, hlt⟩
    · exact h _ e
    · exact fun e2 => by omega
  | mview hb hm hl hk hv ihk ihv =>
    have hs : _ < _ := (Array.getElem?_eq_some_iff.1 hm).1
    obtain ⟨h1, h2⟩ := hc.same _ hs hb
    exact .mview h2 (h1.trans hm) hl (fun i e x he hx => ihk i e x he hx (hc.only [])) fun i e x he hx => ihv i e x he hx (hc.only [])
  | ifc h ih => exact .ifc (ih hc)

end Go.Abs
