import Derived.Test.YtgbkambljlijmaaGreatRmU5
set_option linter.all false
namespace Go.Abs
section
variable {w : World} {β : Nat → Hd} {F : Nat → Prop} {H : Heap}
end
end Go.Abs

namespace Go.Abs
section
variable {w : World} {β : Nat → Hd} {F : Nat → Prop} {H : Heap}
end
end Go.Abs

namespace Go.Abs
end Go.Abs

namespace Go.Abs
end Go.Abs

namespace Go.Abs
end Go.Abs

namespace Go.Abs.G
open Go.Proofs
attribute [local simp] I.vc
end Go.Abs.G

namespace Go.Abs.G
open Go.Proofs
section
variable {s : List Dom} {rf : List Nat} {R : List (List V)} {Es L : Heap} {n c : Nat}
end
def cR (b : Nat) (ms : List (List Dom)) (i : Nat) : List (List V) := ((ms.take i).zipIdx).map fun p => [.own (b + 3 * p.2) 4 0 p.1.length p.1.length]
inductive CI (s : List Dom) (ms : List (List Dom)) (n : Nat) : Nat → Heap → Prop where
  | zero {i : Nat} (hi : i = 0) : CI s ms n i [.mem false [n + 1] [[.own (n + 1) 4 0 s.length s.length, nilS]], .mem false [] (s.map Dom.row)]
  | some {i : Nat} {rf rf' : List Nat} {G : O} {T : Heap} (hi : 0 < i) (hl : T.length = 3 * i - 2) (hk : ∀ j L, j < i → ms[j]? = some L → T[3 * j]? = some (.mem false [] (L.map Dom.row)))
      (hr : ∀ r ∈ rf, r < n + 4 + 3 * i) (hr' : ∀ r ∈ rf', r < n + 4 + 3 * i) : CI s ms n i (.mem false rf [[.own (n + 1) 4 0 s.length s.length, .own (n + 3) 1 0 i i]] :: .mem false [] (s.map Dom.row) :: G :: .mem false rf' (cR (n + 4) ms i) :: T)
theorem CI.len {s : List Dom} {ms : List (List Dom)} {n i : Nat} {E : Heap} (h : CI s ms n i E) : E.length = 2 + 3 * i := by
  cases h with
  | zero hi => simp [hi]
  | some hi hl hk hr hr' => simp [hl]; omega
theorem zeX {m : Nat} {o : O} (h : ∀ r ∈ o.refs, r < m) : limO m o = o := by
  unfold limO; rw [if_pos (List.all_eq_true.2 fun r hr => by simpa using h r hr)]
theorem CI.trim {s : List Dom} {ms : List (List Dom)} {n i m : Nat} {E : Heap} (h : CI s ms n i E) (hm : n + 4 + 3 * i ≤ m) : CI s ms n i (E.map (limO m)) := by
  cases h with
  | zero hi =>
    rw [List.map_cons, List.map_cons, List.map_nil, zeX (by simp [O.refs]; omega), zeX (by simp [O.refs])]
    exact .zero hi
  | some hi hl hk hr hr' =>
    rw [List.map_cons, List.map_cons, List.map_cons, List.map_cons, zeX (fun r h => by have := hr r h; omega), zeX (by simp [O.refs]), zeX (o := .mem false _ (cR (n + 4) ms i)) (fun r h => by have := hr' r h; omega)]
    refine .some hi (by simpa using hl) (fun j L hj hL => ?_) hr hr'
    rw [List.getElem?_map, hk j L hj hL, Option.map_some, zeX (by simp [O.refs])]
end Go.Abs.G

namespace Go.Abs.G
open Go.Proofs
end Go.Abs.G

namespace Go.Abs.G
open Go.Proofs
end Go.Abs.G

namespace Go.Abs.G
open Go.Proofs
structure Uat (H : Heap) (s : List Dom) (T : List (List Ce)) (p a b : Nat) : Prop where
  h0 : H[p]? = some (.mem false [a, b] [[.own a 4 0 s.length s.length, .own b 1 0 T.length T.length]])
  h1 : H[a]? = some (.mem false [] (s.map Dom.row))
  h2 : H[b]? = some (.tree [] T)
  na : p ≠ a
  nb : p ≠ b
  nab : a ≠ b
section
variable {H : Heap} {s : List Dom} {T : List (List Ce)} {p a b : Nat}
theorem Uat.sub (h : Uat H s T p a b) (hT : ∀ f, Ce.renR f T = T) : Abs.sub H [p, a, b] = U s T := by
  have i1 : idx [p, a, b] a = 1 := by simp [idx, List.idxOf_cons, beq_false_of_ne h.na]
  have i2 : idx [p, a, b] b = 2 := by simp [idx, List.idxOf_cons, beq_false_of_ne h.nb, beq_false_of_ne h.nab]
  simp [-idx, Abs.sub, getD_some h.h0, getD_some h.h1, getD_some h.h2, h.h0, h.h1, h.h2, O.ren, V.renL, V.ren, i1, i2, hT, U, Function.comp_def]
theorem Uat.ok (h : Uat H s T p a b) : OkSel H [p, a, b] := by
  refine ⟨by simp [h.na, h.nb, h.nab], fun i hi => ?_, fun i hi => ?_, fun i hi k hk => ?_⟩ <;> (simp only [List.mem_cons, List.not_mem_nil, or_false] at hi)
  · rcases hi with rfl | rfl | rfl
    · exact zbp h.h0
    · exact zbp h.h1
    · exact zbp h.h2
  · rcases hi with rfl | rfl | rfl
    · rw [getD_some h.h0]; simp
    · rw [getD_some h.h1]; simp
    · rw [getD_some h.h2]; simp
  · rcases hi with rfl | rfl | rfl
    · rw [getD_some h.h0] at hk; simp [O.refs] at hk ⊢; exact .inr hk
    · rw [getD_some h.h1] at hk; simp [O.refs] at hk
    · rw [getD_some h.h2] at hk; simp [O.refs] at hk
theorem Uat.clos (h : Uat H s T p a b) : clos H 8 [p] = [p, a, b] := by
  have h3 : ∀ n, Abs.clos H n [p, a, b] = [p, a, b] := fun n => zjC H n _ h.ok.cl
  have cs : ∀ n l, Abs.clos H (n + 1) l = Abs.clos H n (addAll l (l.flatMap fun i => (H.getD i .dead).refs)) := fun _ _ => rfl
  rw [cs 7]
  simp only [List.flatMap_cons, List.flatMap_nil, getD_some h.h0, O.refs, List.append_nil]
  have : addAll [p] [a, b] = [p, a, b] := by simp [addAll, Ne.symm h.na, Ne.symm h.nb, Ne.symm h.nab]
  rw [this]; exact h3 7
theorem Uat.merge (h : Uat H s T p a b) (hT : ∀ f, Ce.renR f T = T) : merge H [p, a, b] (U s T) = H := by
  have i1 : back [p, a, b] H.length 1 = a := rfl
  have i2 : back [p, a, b] H.length 2 = b := rfl
  have e0 : O.ren (back [p, a, b] H.length) (.mem false [1, 2] [[.own 1 4 0 s.length s.length, .own 2 1 0 T.length T.length]]) = .mem false [a, b] [[.own a 4 0 s.length s.length, .own b 1 0 T.length T.length]] := by simp [O.ren, V.renL, V.ren, i1, i2]
  have e1 : O.ren (back [p, a, b] H.length) (.mem false [] (s.map Dom.row)) = .mem false [] (s.map Dom.row) := by simp [O.ren, Function.comp_def]
  have e2 : O.ren (back [p, a, b] H.length) (.tree [] T) = .tree [] T := by simp [O.ren, hT]
  simp only [Abs.merge, U, List.length_cons, List.length_nil, Nat.zero_add, Nat.reduceAdd, List.take_succ_cons, List.take_zero, List.map_cons, List.map_nil, List.drop_succ_cons, List.drop_zero, List.append_nil, e0, e1, e2, place]
  rw [zhb h.h0, zhb h.h1, zhb h.h2]
end
end Go.Abs.G

namespace Go.Abs.G
open Go.Proofs
@[simp] theorem zmM (n : Nat) (s : List Dom) (T : List (List Ce)) : limO n (St1 s T) = St1 s T := by simp [St1, limO, O.refs]
end Go.Abs.G

namespace Go.Abs
def vcF (P : Program) (c : C) (Q : Ex → St → Prop) [Fix Q] (st : St) : Prop := vc P c Q st
def vcItsF (P : Program) (l : List It) (k : St → Prop) [Fix k] (st : St) : Prop := vcIts P l k st
def IvcF (P : Program) (i : I) (k : St → Prop) [Fix k] (st : St) : Prop := i.vc P k st
section
variable {P : Program} {Q : Ex → St → Prop} {st : St} {x : Operand} {a b c : C} {k : St → Prop} {l its : List It} {j t n id : Nat} {want : Bool} {d : Option Nat} {i : I}
@[simp ↓ high] theorem zqB : vc P c Q st = vcF P c Q st := propext Iff.rfl
@[simp ↓ high] theorem zou : vcIts P l k st = vcItsF P l k st := propext Iff.rfl
@[simp ↓ high] theorem zpv : I.vc P i k st = IvcF P i k st := propext Iff.rfl
@[simp] theorem zpn : vcF P .skip Q st = Q .norm st := propext Iff.rfl
@[simp] theorem zpW : vcF P (.reg n its) Q st = vcItsF P its (Q .norm) (st.res n) := propext Iff.rfl
@[simp] theorem zpY : vcF P (.seq a b) Q st = vcF P a (fun e s => match e with | .norm => vcF P b Q s | .exit i => Q (.exit i) s | .ret => Q .ret s) st := propext Iff.rfl
@[simp] theorem zot : vcF P (.block id c) Q st = vcF P c (fun e s => match e with | .norm => Q .norm s | .exit i => if i = id then Q .norm s else Q (.exit i) s | .ret => Q .ret s) st := propext Iff.rfl
@[simp] theorem zpm : vcF P (.exit id) Q st = Q (.exit id) st := propext Iff.rfl
@[simp] theorem zpX : vcF P .ret Q st = Q .ret st := propext Iff.rfl
@[simp] theorem zlK (h : st.ev x = .a (.bool true)) : vcF P (.cond x a b) Q st = vcF P a Q st := by
  unfold vcF; simp only [vc, h]; exact propext ⟨fun q => q.1 trivial, fun q => ⟨fun _ => q, fun e => by cases e⟩⟩
@[simp] theorem zkS (h : st.ev x = .a (.bool false)) : vcF P (.cond x a b) Q st = vcF P b Q st := by
  unfold vcF; simp only [vc, h]; exact propext ⟨fun q => q.2 trivial, fun q => ⟨(fun e => by cases e), fun _ => q⟩⟩
@[simp] theorem znD : vcItsF P [] k st = k st := propext Iff.rfl
@[simp] theorem zpo : vcItsF P (.g i :: l) k st = IvcF P i (vcItsF P l k) st := propext Iff.rfl
@[simp] theorem zpp : vcItsF P (.o j i :: l) k st = IvcF P i (vcItsF P l k) st := propext Iff.rfl
@[simp] theorem zlO (h : gt st.sl t = .a (.bool want)) : vcItsF P (.gd j t want d i :: l) k st = IvcF P i (vcItsF P l k) (st.put (some t) (.bool want)) := by
  unfold vcItsF IvcF; simp only [vcIts, h]; exact propext ⟨fun q => q.1 trivial, fun q => ⟨fun _ => q, fun e => by cases want <;> cases e⟩⟩
@[simp] theorem zlN (h : gt st.sl t = .a (.bool (!want))) : vcItsF P (.gd j t want d i :: l) k st = vcItsF P l k ((st.put (some t) (.bool !want)).put d (.a undef)) := by
  unfold vcItsF; simp only [vcIts, h]; exact propext ⟨fun q => q.2 trivial, fun q => ⟨(fun e => by cases want <;> cases e), fun _ => q⟩⟩
@[simp] theorem zmB (h : gt st.sl t = .a (.tuple #[])) : vcItsF P (.gd j t want d i :: l) k st = vcItsF P l k (st.put d (.a undef)) := by unfold vcItsF; simp only [vcIts, h]
end
section
variable {P : Program} {k : St → Prop} {st : St} {d : Option Nat} {x y v n m key : Operand} {l : L} {t es r len bytes : Nat} {ts ap : List Nat} {zero : List V} {parts : List (Nat × Operand)} {kd : IntKind}
@[simp] theorem F_lt : IvcF P (.lt d l) k st = (l.pre st ∧ k (st.put d (l.val st))) := propext Iff.rfl
@[simp] theorem F_frz : IvcF P (.frz t) k st = (if (gt st.sl t).ids = [] then k st else (gt st.sl t).fzP st.hp ∧ k { st with sl := up st.sl t ((gt st.sl t).fz st.hp), hp := st.hp.fz (gt st.sl t).ids }) := propext Iff.rfl
@[simp] theorem zp1 : IvcF P (.nilv t es) k st = k { st with sl := up st.sl t (if (gt st.sl t).nilSl then .view es [] else gt st.sl t) } := propext Iff.rfl
@[simp] theorem zp0 : IvcF P (.keep ts) k st = k { st with sl := keepS st.sl ts } := propext Iff.rfl
@[simp] theorem F_wk : IvcF P .wk k st = (∃ st', Weak st st' ∧ k st') := propext Iff.rfl
@[simp] theorem zpt : IvcF P (.alloc d r len zero) k st = (st.hp[st.bs + r]? = some .res ∧ zero.length = len ∧ k ({ st with hp := st.hp.set (st.bs + r) (.mem false [] [zero]) }.put d (.ptr (st.bs + r) 1 0 0))) := propext Iff.rfl
@[simp] theorem F_box : IvcF P (.box d r len x) k st = (st.hp[st.bs + r]? = some .res ∧ (st.ev x).sized st.hp len ∧
      k ({ st with hp := st.hp.set (st.bs + r) (.mem false (V.idsL (st.ev x).cells) [(st.ev x).cells]) }.put d (.ptr (st.bs + r) 1 0 0))) := propext Iff.rfl
@[simp] theorem F_bsl : IvcF P (.bsl d r es len zero parts) k st = (st.hp[st.bs + r]? = some .res ∧ zero.length = es ∧ (∀ p ∈ parts, (st.ev p.2).sized st.hp es ∧ p.1 < len) ∧
      k ({ st with hp := st.hp.set (st.bs + r) (.mem false (V.idsL (fillV (List.flatten (List.replicate len zero)) (parts.map fun (p : Nat × Operand) => (p.1 * es, es, st.ev p.2)))) (chunk es len (fillV (List.flatten (List.replicate len zero)) (parts.map fun (p : Nat × Operand) => (p.1 * es, es, st.ev p.2))))) }.put d (.own (st.bs + r) es 0 len len))) := propext Iff.rfl
@[simp] theorem F_bsv : IvcF P (.bsv d es len zero parts) k st = (zero.length = es ∧ (∀ p ∈ parts, V.idsL (st.ev p.2).cells = [] ∧ (st.ev p.2).sized st.hp es ∧ p.1 < len) ∧
      k (st.put d (I.bsvV es len zero (parts.map fun (p : Nat × Operand) => (p.1 * es, es, st.ev p.2))))) := propext Iff.rfl
@[simp] theorem F_mkm : IvcF P (.mkm d r) k st = (st.hp[st.bs + r]? = some .res ∧ k ({ st with hp := st.hp.set (st.bs + r) (.map false [] []) }.put d (.mp (st.bs + r)))) := propext Iff.rfl
@[simp] theorem F_mks : IvcF P (.mks d r es bytes zero n) k st = (st.hp[st.bs + r]? = some .res ∧ zero.length = es ∧ (∃ m, st.ev n = .a (.int .i64 m)) ∧ 0 ≤ (st.ev n).num ∧ (st.ev n).num * bytes ≤ 140737488355328 ∧
      k ({ st with hp := st.hp.set (st.bs + r) (.mem false [] (List.replicate (st.ev n).num.toNat zero)) }.put d (.own (st.bs + r) es 0 (st.ev n).num.toNat (st.ev n).num.toNat))) := propext Iff.rfl
@[simp] theorem F_pan : IvcF P .pan k st = False := propext Iff.rfl
@[simp] theorem zpu : IvcF P (.store ap len x v) k st = (match st.ev x with
    | .ptr id tot i j => match st.hp.getD id .dead with
      | .mem false refs rows => (∀ t ∈ ap, (gt st.sl t).oid ≠ some id) ∧ rows.length = tot ∧ i < tot ∧ j + len ≤ (rows.getD i []).length ∧ (st.ev v).sized st.hp len ∧
          k { st with hp := st.hp.set id (.mem false (addRefs refs (V.idsL (st.ev v).cells)) (rows.set i (rowSet (rows.getD i []) j (st.ev v).cells))) }
      | _ => False
    | _ => False) := propext Iff.rfl
@[simp] theorem F_app : IvcF P (.app ap d r es bytes x y) k st = (match st.ev x with
    | .own id es' off len tot => match st.hp.getD id .dead with
      | .mem false refs rows => (∀ t ∈ ap, (gt st.sl t).oid ≠ some id) ∧ es' = es ∧ rows.length = tot ∧ off + len = tot ∧ okSl st.hp (st.ev y) ∧ (st.ev y).slEs es ∧ ((len : Int) + (st.ev y).slLen) * bytes ≤ 140737488355328 ∧
          k ({ st with hp := st.hp.set id (.mem false (addRefs refs ((st.ev y).rowIds st.hp)) (rows ++ (st.ev y).rowsOf st.hp)) }.put d (.own id es off (len + ((st.ev y).rowsOf st.hp).length) (tot + ((st.ev y).rowsOf st.hp).length)))
      | _ => False
    | .a (.slice none 0 0) => st.hp[st.bs + r]? = some .res ∧ okSl st.hp (st.ev y) ∧ (st.ev y).slEs es ∧ (st.ev y).slLen * bytes ≤ 140737488355328 ∧
          k ({ st with hp := st.hp.set (st.bs + r) (.mem false ((st.ev y).rowIds st.hp) ((st.ev y).rowsOf st.hp)) }.put d (.own (st.bs + r) es 0 ((st.ev y).rowsOf st.hp).length ((st.ev y).rowsOf st.hp).length))
    | .nul es' => es' = es ∧ st.hp[st.bs + r]? = some .res ∧ okSl st.hp (st.ev y) ∧ (st.ev y).slEs es ∧ (st.ev y).slLen * bytes ≤ 140737488355328 ∧
          (if ((st.ev y).rowsOf st.hp).isEmpty = true then k (st.put d (.nul es)) else
            k ({ st with hp := st.hp.set (st.bs + r) (.mem false ((st.ev y).rowIds st.hp) ((st.ev y).rowsOf st.hp)) }.put d (.own (st.bs + r) es 0 ((st.ev y).rowsOf st.hp).length ((st.ev y).rowsOf st.hp).length)))
    | _ => False) := propext Iff.rfl
@[simp] theorem F_cpy : IvcF P (.cpy d es x y) k st = (match st.ev x with
    | .own id es' off len tot => match st.hp.getD id .dead with
      | .mem false refs rows => es' = es ∧ rows.length = tot ∧ off + len ≤ tot ∧ okSl st.hp (st.ev y) ∧ (st.ev y).slEs es ∧ (st.ev y).slLen ≤ len ∧
          k ({ st with hp := st.hp.set id (.mem false (addRefs refs ((st.ev y).rowIds st.hp)) (rows.take off ++ (st.ev y).rowsOf st.hp ++ rows.drop (off + ((st.ev y).rowsOf st.hp).length))) }.put d (.a (.int .i64 (st.ev y).slLen)))
      | _ => False
    | _ => False) := propext Iff.rfl
@[simp] theorem F_mup : IvcF P (.mup ap kd m key v) k st = (match st.ev m with
    | .mp id => match st.hp.getD id .dead with
      | .map false refs es => (∀ t ∈ ap, (gt st.sl t).oid ≠ some id) ∧ (∀ e ∈ es, e.1.isKey kd = true) ∧ (st.ev key).isKey kd = true ∧
          k { st with hp := st.hp.set id (.map false (addRefs refs (V.idsL [st.ev v])) (putE es (st.ev key) (st.ev v))) }
      | _ => False
    | _ => False) := propext Iff.rfl
end
section
variable {P : Program} {k : St → Prop} {st : St} {d : Option Nat} {ap : List Nat} {f : FuncId} {xs : List Operand}
theorem gcall {r0 : V} {zs : List V} (hc : Pf P f zs r0) (ha : xs.map st.ev = zs) (hi : V.idsL zs = []) (hk : k (st.put d r0)) : IvcF P (.call d f xs) k st := zmQ hc ha hi hk
theorem zjQ {zs : List V} {Q : V → Prop} (hc : DP P f zs Q) (ha : xs.map st.ev = zs) (hi : V.idsL zs = []) (hk : ∀ r, Q r → k (st.put d r)) : IvcF P (.call d f xs) k st := by
  subst ha; exact ⟨hi, hc.mono hk⟩
theorem zgo {zs : List V} {H0 : Heap} {Q : V → Heap → Prop} (hc : DC P f zs H0 Q) (sel : List Nat) (hs : clos st.hp 8 (addAll [] (V.idsL (xs.map st.ev))) = sel) (hok : OkSel st.hp sel) (ha : V.renL (idx sel) (xs.map st.ev) = zs) (hH : sub st.hp sel = H0)
    (hf : okFunc P f = true) (hk : ∀ r H', Q r H' → k ({ st with hp := merge st.hp sel H' }.put d (r.ren (back sel st.hp.length)))) : IvcF P (.callm d (.func f) xs) k st := zjy hc sel hs hok ha hH hf hk
end
end Go.Abs

namespace Go.Abs
section
variable {P : Program} {k : St → Prop} {st : St} {d : Option Nat} {ap : List Nat} {f : FuncId} {xs : List Operand}
end
end Go.Abs

namespace Go.Abs
end Go.Abs

namespace Go.Abs
theorem Weak.ownnul (t es : Nat) {es' : Nat} {st : St} (ht : gt st.sl t = .nul es') : Weak st { st with sl := up st.sl t (.own st.hp.length es 0 0 0), hp := st.hp ++ [.mem false [] []] } := by
  refine ⟨rfl, fun k hk => ?_, by simp, fun w β F N a hR => ?_⟩
  · show (st.hp ++ _)[k]? = _
    rw [List.getElem?_append_left (zbp hk)]; exact hk
  · have a1 := zhW (F := F) hR.hok 1
    have hg : (st.hp ++ List.replicate 1 O.res)[st.hp.length]? = some O.res := by simp
    have a2 := zg1 (es := es) (refs := []) (F := F) a1.hok hg
    have e : (st.hp ++ List.replicate 1 O.res).set st.hp.length (.mem false [] []) = st.hp ++ [.mem false [] []] := by
      rw [List.set_append, if_neg (by omega), Nat.sub_self]; rfl
    have a3 : ∀ ad : Option Addr, RV (cx w.heap (st.hp ++ [.mem false [] []]) (upd β st.hp.length ⟨0, 0, 0, es, 0, true, 0, noSub⟩) F) (.slice ad 0 0) (.own st.hp.length es 0 0 0) := fun ad => by
      have := zg2 (es := es) (refs := []) (ad := ad) (hp := w.heap) (F := F) (β := β) hg
      rw [e] at this; exact this
    rw [e] at a2
    have adv := a1.trans a2
    refine ⟨_, adv, ?_⟩
    have hR2 : Rel w _ F N { st with hp := st.hp ++ [.mem false [] []] } a := hR.adv adv
    have hx := hR.sl t
    rw [ht] at hx
    refine hR2.slot ?_
    generalize a.tmps.getD t undef = v at hx
    cases hx with
    | nul => exact a3 _
end Go.Abs

namespace Go.Abs.G
section
variable {P : Program} {k : St → Prop} {st : St} {d : Option Nat} {x : Operand} {es : Nat} {zero : List V}
@[simp] theorem F_clr : IvcF P (.clr d es zero x) k st = (match st.ev x with
    | .own id es' off len tot => match st.hp.getD id .dead with
      | .mem false refs rows => es' = es ∧ rows.length = tot ∧ off + len ≤ tot ∧ zero.length = es ∧
          k ({ st with hp := st.hp.set id (.mem false refs (rows.take off ++ List.replicate len zero ++ rows.drop (off + len))) }.put d (.a (.tuple #[])))
      | _ => False
    | .a (.slice none 0 0) => k (st.put d (.a (.tuple #[])))
    | _ => False) := propext Iff.rfl
end
def ri (l : List Int) : List (List V) := l.map fun n => [V.i n]
theorem zeN (l : List Int) : (ri l).length = l.length := by simp [ri]
end Go.Abs.G

namespace Go.Abs.G
open Go.Proofs
def isR (d : List (List Int)) (x : Int) : Bool := decide (0 ≤ x) && decide (x < d.length)
def rowR (d : List (List Int)) (x : Int) : List Int := if isR d x then (d[x.toNat]?).getD [] else []
structure DOk (d : List (List Int)) : Prop where
  n : d.length ≤ 64
  l : ∀ l ∈ d, 1 ≤ l.length ∧ l.length ≤ 64
structure ROk (d : List (List Int)) (ms : List (List (List Int))) : Prop where
  d : DOk d
  k : ms.length ≤ 1000000
  m : ∀ e ∈ ms, DOk e
section
variable {d : List (List Int)} {ms : List (List (List Int))} {M : List (List V)}
end
end Go.Abs.G

namespace Go.Abs.G
open Go.Proofs
section
variable {d : List (List Int)} {D M : List (List V)}
end
end Go.Abs.G

namespace Go.Abs.G
open Go.Proofs
def leftR (k v : Int) (l : List Int) : List Int := l.filter fun y => !goesB k v y
def cutR (d : List (List Int)) (k x v : Int) : List (List Int) × Bool × Bool :=
  if isR d x = false then (d, false, true)
  else if leftR k v (rowR d x) = [] then (d, false, false)
  else (d.set x.toNat (leftR k v (rowR d x)), decide ((leftR k v (rowR d x)).length < (rowR d x).length), true)
theorem zjZ (k v : Int) (l : List Int) : (leftR k v l).length ≤ l.length := List.length_filter_le _ _
section
variable {d : List (List Int)} {M : List (List V)}
end
end Go.Abs.G

namespace Go.Abs.G
open Go.Proofs
section
variable {d : List (List Int)} {M : List (List V)}
end
end Go.Abs.G

namespace Go.Abs.G
open Go.Proofs
section
variable {d : List (List Int)} {M : List (List V)}
end
end Go.Abs.G

namespace Go.Abs.G
open Go.Proofs
attribute [local simp] I.vc
end Go.Abs.G

namespace Go.Abs.G
open Go.Proofs
section
variable {d : List (List Int)} {ms : List (List (List Int))}
end
end Go.Abs.G

namespace Go.Abs.G
open Go.Proofs
section
variable {d : List (List Int)} {ms : List (List (List Int))}
end
end Go.Abs.G

namespace Go.Abs.G
open Go.Proofs
def RR (d : List (List Int)) (ms : List (List (List Int))) : O := R1 (dR d) (mR ms)
theorem zlP {D M : List (List V)} (hD : flR D) (hM : flR M) (f : Nat → Nat) : O.ren f (R1 D M) = R1 D M := by
  have h : ∀ (D : List (List V)), (∀ f, D.map (V.renL f) = D) → Ce.renR f (flatC D) = flatC D := fun D hD => by
    have hL : ∀ r : List V, Ce.renL f (r.map Ce.v) = (V.renL f r).map Ce.v := fun r => by
      induction r with
      | nil => rfl
      | cons x r ih => simp [Ce.renL, Ce.ren, V.renL, ih]
    have hR : ∀ D : List (List V), Ce.renR f (flatC D) = flatC (D.map (V.renL f)) := fun D => by
      induction D with
      | nil => rfl
      | cons r D ih =>
        have ih' : Ce.renR f (D.map fun r => r.map Ce.v) = (D.map (V.renL f)).map fun r => r.map Ce.v := ih
        simp [flatC, Ce.renR, hL, ih']
    rw [hR, hD]
  simp [R1, O.ren, Ce.renR, Ce.renL, Ce.ren, h D hD.1, h M hM.1]
theorem zlQ (d : List (List Int)) (ms : List (List (List Int))) : (RR d ms).clo := ⟨rfl, fun f => zlP (fl_dR d) (fl_mR ms) f, fun e => by cases e⟩
@[simp ↓ high] theorem zpw (d : List (List Int)) (ms : List (List (List Int))) : (RR d ms).clo = True := eq_true (zlQ d ms)
@[simp] theorem zp2 (n : Nat) (d : List (List Int)) (ms : List (List (List Int))) : limO n (RR d ms) = RR d ms := by simp [RR, R1, limO, O.refs]
@[simp] theorem zpx (d : List (List Int)) (ms : List (List (List Int))) : (RR d ms).refs = [] := rfl
@[simp] theorem zp3 (f : Nat → Nat) (d : List (List Int)) (ms : List (List (List Int))) : O.ren f (RR d ms) = RR d ms := zlP (fl_dR d) (fl_mR ms) f
section
variable {d : List (List Int)} {ms : List (List (List Int))} (hr : ROk d ms)
include hr
end
end Go.Abs.G

namespace Go.Abs.G
open Go.Proofs
end Go.Abs.G

namespace Go.Abs.G
open Go.Proofs
end Go.Abs.G

namespace Go.Abs.G
open Go.Proofs
theorem zfa (c : Nat) (hc : c < 256) : Pf Tryz.prog zbM.id [.a (.int .u8 c)] (.bool (letterB c)) := by
  refine DC.of zbM.ok (by simp) ?_
  unfold zbM.ir
  unfold letterB
  by_cases h1 : 97 ≤ c <;> by_cases h2 : c ≤ 122 <;> by_cases h3 : 65 ≤ c <;> by_cases h4 : c ≤ 90 <;> by_cases h5 : c = 95 <;>
    first
    | omega
    | (have e1 : ((97 : Int) ≤ c) ↔ 97 ≤ c := by omega
       have e2 : ((c : Int) ≤ 122) ↔ c ≤ 122 := by omega
       have e3 : ((65 : Int) ≤ c) ↔ 65 ≤ c := by omega
       have e4 : ((c : Int) ≤ 90) ↔ c ≤ 90 := by omega
       have e5 : ((c : Int) = 95) ↔ c = 95 := by omega
       simp -dsimp [zbM.rs, h1, h2, h3, h4, h5, e1, e2, e3, e4, e5])
theorem zei (n most : Int) (h0 : 0 ≤ most) (h1 : most ≤ 9223372036854775807) : Pf Tryz.prog zbR.id [V.i n, V.i most] (.bool (withinB n most)) := by
  refine DC.of zbR.ok (by simp) ?_
  have hw : IntKind.i64.wrap (-most) = -most := wrap64 (by omega) (by omega)
  unfold zbR.ir withinB
  by_cases h : -most ≤ n <;> by_cases h2 : n ≤ most <;> simp -dsimp [zbR.rs, hw, h, h2]
theorem zds (n : Int) : Pf Tryz.prog zbi.id [V.i n] (.bool (withinB n 1000000000)) := by
  refine DC.of zbi.ok (by simp) ?_
  unfold zbi.ir
  simp -dsimp
  refine gcall (zei n 1000000000 (by decide) (by decide)) (by simp -dsimp) (by simp -dsimp) ?_
  simp -dsimp [zbi.rs]
theorem ziU (n : Int) : Pf Tryz.prog zbX.id [V.i n] (.bool (!(decide (n = 0) || !withinB n 1000000))) := by
  refine DC.of zbX.ok (by simp) ?_
  unfold zbX.ir
  by_cases h : n = 0
  · simp -dsimp [h, zbX.rs]
  · simp -dsimp [h]
    refine gcall (zei n 1000000 (by decide) (by decide)) (by simp -dsimp) (by simp -dsimp) ?_
    simp -dsimp [zbX.rs, h]
def boundsR (lo hi : Int) : Bool := withinB lo 1000000000 && withinB hi 1000000000 && decide (lo ≤ hi) && decide (hi - lo < 64)
theorem zhh (lo hi : Int) (h1 : I64 lo) (h2 : I64 hi) : Pf Tryz.prog zbx.id [V.i lo, V.i hi] (.bool (boundsR lo hi)) := by
  refine DC.of zbx.ok (by simp) ?_
  unfold zbx.ir boundsR
  simp -dsimp
  refine gcall (zei lo 1000000000 (by decide) (by decide)) (by simp -dsimp) (by simp -dsimp) ?_
  cases a : withinB lo 1000000000
  · simp -dsimp [a, zbx.rs]
  · simp -dsimp [a]
    refine gcall (zei hi 1000000000 (by decide) (by decide)) (by simp -dsimp) (by simp -dsimp) ?_
    cases b : withinB hi 1000000000
    · simp -dsimp [b, zbx.rs]
    · simp [withinB] at a b
      by_cases h : lo ≤ hi
      · have hw : IntKind.i64.wrap (hi - lo) = hi - lo := wrap64 (by omega) (by omega)
        simp -dsimp [h, hw, zbx.rs]
      · simp -dsimp [h, zbx.rs]
theorem zdO (n : Nat) : Pf Tryz.prog zbu.id [V.i n] (.bool (manyB n)) := by
  refine DC.of zbu.ok (by simp) ?_
  unfold zbu.ir manyB
  by_cases h : n < 1
  · have h' : (n : Int) < 1 := by omega
    simp -dsimp [h, h', zbu.rs]
  · have h' : ¬ (n : Int) < 1 := by omega
    by_cases h2 : 64 < n
    · have h2' : (64 : Int) < n := by omega
      simp -dsimp [h, h', h2, h2', zbu.rs]
    · have h2' : ¬ (64 : Int) < n := by omega
      simp -dsimp [h, h', h2, h2', zbu.rs]
theorem zfB (k : Int) : Pf Tryz.prog zbs.id [V.i k] (.bool (listsB k)) := by
  refine DC.of zbs.ok (by simp) ?_
  unfold zbs.ir listsB
  by_cases h3 : k = 3
  · simp -dsimp [h3, zbs.rs]
  by_cases h5 : k = 5
  · simp -dsimp [h5, zbs.rs]
  by_cases h6 : k = 6
  · simp -dsimp [h6, zbs.rs]
  by_cases h8 : k = 8
  · simp -dsimp [h8, zbs.rs]
  simp -dsimp [h3, h5, h6, h8, zbs.rs, Bool.beq_eq_decide_eq]
theorem zer (x n : Int) : Pf Tryz.prog zbQ.id [V.i x, V.i n] (.bool (placeR x n)) := by
  refine DC.of zbQ.ok (by simp) ?_
  unfold zbQ.ir placeR
  by_cases h : 0 ≤ x <;> simp -dsimp [h, zbQ.rs]
end Go.Abs.G

namespace Go.Abs.G
open Go.Proofs
def foS (c : Con) : Bool := decide (c.kind = 1) || decide (c.kind = 7)
def fo1 (c : Con) : Bool := decide (c.kind ≠ 1) && decide (c.kind ≠ 9) && decide (c.op ≠ 0)
def fo2 (c : Con) : Bool := fo1 c || (!foS c && decide (0 < c.terms.length))
def fo3 (c : Con) : Bool := fo2 c || (!foS c && decide (c.kind ≠ 2) && decide (c.kind ≠ 9) && decide (c.k ≠ 0))
def fo4 (c : Con) : Bool := fo3 c || (decide (c.kind ≠ 2) && decide (c.kind ≠ 4) && decide (c.kind ≠ 7) && decide (c.x ≠ 0))
def fo5 (c : Con) : Bool := fo4 c || ((foS c || (listsB c.kind && decide (c.kind ≠ 5) && decide (c.kind ≠ 6))) && decide (c.y ≠ 0))
def fo6 (c : Con) : Bool := fo5 c || (!listsB c.kind && decide (0 < c.xs.length))
def fo7 (c : Con) : Bool := fo6 c || (decide (c.kind ≠ 4) && decide (0 < c.table.length))
def fo0 (c : Con) : Bool := (decide (c.kind ≠ 9) && decide (c.v ≠ 0)) || (decide (c.kind ≠ 8) && decide (0 < c.rows.length))
theorem zeb (c : Con) : foreignB c = (fo0 c || fo7 c) := by
  unfold foreignB fo7 fo6 fo5 fo4 fo3 fo2 fo1 fo0 foS
  split
  · rename_i h; rw [h]; rfl
  · rename_i h; rw [Bool.not_eq_true] at h; rw [h]; rfl
theorem posN (n : Nat) : ((0 : Int) < n) ↔ 0 < n := by omega
theorem zgJ (c : Con) : Pf Tryz.prog zbh.id [.agg c.cells] (.bool (foreignB c)) := by
  refine DC.of zbh.ok (by simp) ?_
  unfold zbh.ir
  refine zac (At [(1, .ptr 0 1 0 0)] [.mem false [] [c.cells]]) (by simp -dsimp [At, Con.cells, vTerms, vInts, vIntss]) ?_
  try clear h
  rintro ⟨sl, hp, bs⟩ ⟨rfl, h⟩
  simp only [zaa, zab, zad] at h
  refine zac (At [(1, .ptr 0 1 0 0), (3, V.i c.kind)] [.mem false [] [c.cells]]) (by simp -dsimp [h, At, Con.cells, vTerms, vInts, vIntss]) ?_
  try clear h
  rintro ⟨sl, hp, bs⟩ ⟨rfl, h⟩
  simp only [zaa, zab, zad] at h
  refine zac (At [(1, .ptr 0 1 0 0), (3, V.i c.kind), (4, .bool (foS c))] [.mem false [] [c.cells]]) ?_ ?_
  · by_cases k : c.kind = 1
    · simp -dsimp [h, At, k, foS]
    · simp -dsimp [h, At, k, foS, Bool.beq_eq_decide_eq]
  try clear h
  rintro ⟨sl, hp, bs⟩ ⟨rfl, h⟩
  simp only [zaa, zab, zad] at h
  refine zac (At [(1, .ptr 0 1 0 0), (3, V.i c.kind), (4, .bool (foS c)), (5, .bool (listsB c.kind))] [.mem false [] [c.cells]]) ?_ ?_
  · simp -dsimp [h]
    refine gcall (zfB c.kind) (by simp -dsimp [h]) (by simp -dsimp [h]) ?_
    simp -dsimp [h, At]
  try clear h
  rintro ⟨sl, hp, bs⟩ ⟨rfl, h⟩
  simp only [zaa, zab, zad] at h
  obtain ⟨L, hL⟩ : ∃ L, L = listsB c.kind := ⟨_, rfl⟩
  obtain ⟨S, hS⟩ : ∃ S, S = foS c := ⟨_, rfl⟩
  rw [← hL, ← hS] at h
  have l0 := posN
  refine zac (fun st => fo0 c = false ∧ At [(1, .ptr 0 1 0 0), (3, V.i c.kind), (4, .bool S), (5, .bool L)] [.mem false [] [c.cells]] st) ?_ ?_
  · by_cases k9 : c.kind = 9
    · by_cases r : 0 < c.rows.length
      · simp -dsimp [h, At, Con.cells, vTerms, vInts, vIntss, k9, r, l0, fo0, zeb, zbh.rs]
      · simp -dsimp [h, At, Con.cells, vTerms, vInts, vIntss, k9, r, l0, fo0]
    · by_cases v : c.v = 0
      · by_cases k8 : c.kind = 8
        · simp -dsimp [h, At, Con.cells, vTerms, vInts, vIntss, k8, v, l0, fo0]
        · by_cases r : 0 < c.rows.length
          · simp -dsimp [h, At, Con.cells, vTerms, vInts, vIntss, k9, k8, v, r, l0, fo0, zeb, zbh.rs]
          · simp -dsimp [h, At, Con.cells, vTerms, vInts, vIntss, k9, k8, v, r, l0, fo0]
      · simp -dsimp [h, At, Con.cells, vTerms, vInts, vIntss, k9, v, l0, fo0, zeb, zbh.rs]
  try clear h
  rintro ⟨sl, hp, bs⟩ ⟨f0, rfl, h⟩
  simp only [zaa, zab, zad] at h
  have hF : foreignB c = fo7 c := by rw [zeb, f0]; rfl
  rw [hF]
  refine zac (At [(2, .bool (fo7 c))] [.mem false [] [c.cells]]) ?_ ?_
  rotate_left
  · try clear h
    rintro ⟨sl, hp, bs⟩ ⟨rfl, h⟩
    simp only [zaa, zab, zad] at h
    simp -dsimp [h, zbh.rs]
  refine zeQ (zcT 12 (At [(1, .ptr 0 1 0 0), (3, V.i c.kind), (4, .bool S), (5, .bool L), (44, .bool (fo1 c))] [.mem false [] [c.cells]]) ?_ ?_)
  · by_cases k : c.kind = 1
    · simp -dsimp [h, At, k, fo1]
    · by_cases k9 : c.kind = 9
      · simp -dsimp [h, At, k9, fo1]
      · by_cases o : c.op = 0
        · simp -dsimp [h, At, k, k9, fo1, o, Con.cells, vTerms, vInts, vIntss]
        · simp -dsimp [h, At, k, k9, fo1, o, Con.cells, vTerms, vInts, vIntss]
  try clear h
  rintro ⟨sl, hp, bs⟩ ⟨rfl, h⟩
  simp only [zaa, zab, zad] at h
  refine zcT 10 (At [(1, .ptr 0 1 0 0), (3, V.i c.kind), (4, .bool S), (5, .bool L), (54, .bool (fo2 c))] [.mem false [] [c.cells]]) ?_ ?_
  · cases e : fo1 c
    · cases S
      · by_cases t : 0 < c.terms.length
        · simp -dsimp [h, At, e, fo2, ← hS, t, l0, Con.cells, vTerms, vInts, vIntss]
        · simp -dsimp [h, At, e, fo2, ← hS, t, l0, Con.cells, vTerms, vInts, vIntss]
      · simp -dsimp [h, At, e, fo2, ← hS]
    · simp -dsimp [h, At, e, fo2]
  try clear h
  rintro ⟨sl, hp, bs⟩ ⟨rfl, h⟩
  simp only [zaa, zab, zad] at h
  refine zcT 17 (At [(1, .ptr 0 1 0 0), (3, V.i c.kind), (4, .bool S), (5, .bool L), (71, .bool (fo3 c))] [.mem false [] [c.cells]]) ?_ ?_
  · cases e : fo2 c
    · cases S
      · by_cases k2 : c.kind = 2
        · simp -dsimp [h, At, e, fo3, ← hS, k2]
        · by_cases k9 : c.kind = 9
          · simp -dsimp [h, At, e, fo3, ← hS, k9]
          · by_cases t : c.k = 0
            · simp -dsimp [h, At, e, fo3, ← hS, k2, k9, t, Con.cells, vTerms, vInts, vIntss]
            · simp -dsimp [h, At, e, fo3, ← hS, k2, k9, t, Con.cells, vTerms, vInts, vIntss]
      · simp -dsimp [h, At, e, fo3, ← hS]
    · simp -dsimp [h, At, e, fo3]
  try clear h
  rintro ⟨sl, hp, bs⟩ ⟨rfl, h⟩
  simp only [zaa, zab, zad] at h
  refine zcT 17 (At [(1, .ptr 0 1 0 0), (3, V.i c.kind), (4, .bool S), (5, .bool L), (88, .bool (fo4 c))] [.mem false [] [c.cells]]) ?_ ?_
  · cases e : fo3 c
    · by_cases k2 : c.kind = 2
      · simp -dsimp [h, At, e, fo4, k2]
      · by_cases k4 : c.kind = 4
        · simp -dsimp [h, At, e, fo4, k4]
        · by_cases k7 : c.kind = 7
          · simp -dsimp [h, At, e, fo4, k7]
          · by_cases t : c.x = 0
            · simp -dsimp [h, At, e, fo4, k2, k4, k7, t, Con.cells, vTerms, vInts, vIntss]
            · simp -dsimp [h, At, e, fo4, k2, k4, k7, t, Con.cells, vTerms, vInts, vIntss]
    · simp -dsimp [h, At, e, fo4]
  try clear h
  rintro ⟨sl, hp, bs⟩ ⟨rfl, h⟩
  simp only [zaa, zab, zad] at h
  refine zcT 19 (At [(1, .ptr 0 1 0 0), (3, V.i c.kind), (4, .bool S), (5, .bool L), (107, .bool (fo5 c))] [.mem false [] [c.cells]]) ?_ ?_
  · cases e : fo4 c
    · by_cases t : c.y = 0
      · cases S
        · cases L
          · simp -dsimp [h, At, e, fo5, ← hS, ← hL, t, Con.cells, vTerms, vInts, vIntss]
          · by_cases k5 : c.kind = 5
            · simp -dsimp [h, At, e, fo5, ← hS, ← hL, t, k5, Con.cells, vTerms, vInts, vIntss]
            · by_cases k6 : c.kind = 6
              · simp -dsimp [h, At, e, fo5, ← hS, ← hL, t, k6, Con.cells, vTerms, vInts, vIntss]
              · simp -dsimp [h, At, e, fo5, ← hS, ← hL, t, k5, k6, Con.cells, vTerms, vInts, vIntss]
        · simp -dsimp [h, At, e, fo5, ← hS, ← hL, t, Con.cells, vTerms, vInts, vIntss]
      · cases S
        · cases L
          · simp -dsimp [h, At, e, fo5, ← hS, ← hL, t, Con.cells, vTerms, vInts, vIntss]
          · by_cases k5 : c.kind = 5
            · have hL' : listsB 5 = true := by rw [← k5, ← hL]
              simp -dsimp [h, At, e, fo5, ← hS, hL', t, k5, Con.cells, vTerms, vInts, vIntss]
            · by_cases k6 : c.kind = 6
              · have hL' : listsB 6 = true := by rw [← k6, ← hL]
                simp -dsimp [h, At, e, fo5, ← hS, hL', t, k6, Con.cells, vTerms, vInts, vIntss]
              · simp -dsimp [h, At, e, fo5, ← hS, ← hL, t, k5, k6, Con.cells, vTerms, vInts, vIntss]
        · simp -dsimp [h, At, e, fo5, ← hS, ← hL, t, Con.cells, vTerms, vInts, vIntss]
    · simp -dsimp [h, At, e, fo5]
  try clear h
  rintro ⟨sl, hp, bs⟩ ⟨rfl, h⟩
  simp only [zaa, zab, zad] at h
  refine zcT 10 (At [(1, .ptr 0 1 0 0), (3, V.i c.kind), (117, .bool (fo6 c))] [.mem false [] [c.cells]]) ?_ ?_
  · cases e : fo5 c
    · cases L
      · by_cases t : 0 < c.xs.length
        · simp -dsimp [h, At, e, fo6, ← hL, t, l0, Con.cells, vTerms, vInts, vIntss]
        · simp -dsimp [h, At, e, fo6, ← hL, t, l0, Con.cells, vTerms, vInts, vIntss]
      · simp -dsimp [h, At, e, fo6, ← hL]
    · simp -dsimp [h, At, e, fo6]
  try clear h
  rintro ⟨sl, hp, bs⟩ ⟨rfl, h⟩
  simp only [zaa, zab, zad] at h
  cases e : fo6 c
  · by_cases k4 : c.kind = 4
    · simp -dsimp [h, At, e, fo7, k4]
    · by_cases t : 0 < c.table.length
      · simp -dsimp [h, At, e, fo7, k4, t, l0, Con.cells, vTerms, vInts, vIntss]
      · simp -dsimp [h, At, e, fo7, k4, t, l0, Con.cells, vTerms, vInts, vIntss]
  · simp -dsimp [h, At, e, fo7]
end Go.Abs.G

namespace Go.Abs.G
open Go.Proofs
theorem anyTake1 {α : Type} {p : α → Bool} {l : List α} {i : Nat} (h : i < l.length) : (l.take (i + 1)).any p = ((l.take i).any p || p l[i]) := by
  rw [List.take_succ_eq_append_getElem h, List.any_append]; simp
theorem zd1 {α : Type} {p : α → Bool} {l : List α} {i : Nat} (h : i < l.length) (hp : p l[i] = true) : l.any p = true := List.any_eq_true.2 ⟨_, List.getElem_mem h, hp⟩
theorem zfT (l : List Term) (n : Int) (hl : l.length ≤ maxLen) : Pf Tryz.prog za4.id [vTerms l, V.i n] (V.i (termsR l n)) := by
  have hM : (maxLen : Int) ≤ 9223372036854775807 := by decide
  refine DC.of za4.ok (by simp) ?_
  unfold za4.ir
  refine zac (At [(0, vTerms l), (1, V.i n)] []) (by simp -dsimp [At, vTerms]) ?_
  try clear h
  rintro ⟨sl, hp, bs⟩ ⟨rfl, h⟩
  simp only [zaa, zab, zad] at h
  refine zac (fun st => badVarB n l = false ∧ At [(0, vTerms l)] [] st) ?_ ?_
  · refine zac (At [(0, vTerms l), (1, V.i n), (5, V.i 0)] []) (by simp -dsimp [h, At]) ?_
    try clear h
    rintro ⟨sl, hp, bs⟩ ⟨rfl, h⟩
    simp only [zaa, zab, zad] at h
    refine zag (zbY 0 (by simp) l.length (fun i st => badVarB n (l.take i) = false ∧ At [(0, vTerms l), (1, V.i n), (5, V.i i)] [] st) ⟨rfl, rfl, by simpa using h⟩ ?_)
    clear h
    rintro i ⟨sl, hp, bs⟩ hi ⟨hx, rfl, h⟩
    simp only [zaa, zab] at h
    unfold za4.b0
    by_cases hil : i < l.length
    · have hw : IntKind.i64.wrap ((i : Int) + 1) = ((i + 1 : Nat) : Int) := by rw [wrap64] <;> omega
      refine zac (At [(0, vTerms l), (1, V.i n), (5, V.i i)] []) (by simp -dsimp [h, At, hil, vTerms]) ?_
      try clear h
      rintro ⟨sl, hp, bs⟩ ⟨rfl, h⟩
      simp only [zaa, zab, zad] at h
      obtain ⟨t, ht⟩ : ∃ t, t = l[i] := ⟨_, rfl⟩
      refine zac (fun st => (decide (t.x < 0) || decide (n ≤ t.x)) = false ∧ At [(0, vTerms l), (1, V.i n), (5, V.i i)] [] st) ?_ ?_
      · refine zag ?_
        have hbad : (decide (t.x < 0) || decide (n ≤ t.x)) = true → termsR l n = 44 := fun e => by
          have : badVarB n l = true := zd1 hil (by rw [← ht]; exact e)
          unfold termsR; rw [this]; rfl
        by_cases a : t.x < 0
        · simp -dsimp [h, At, hil, vTerms, ← ht, Term.cells, a, za4.rs, hbad (by simp [a])]
        · by_cases b : n ≤ t.x
          · simp -dsimp [h, At, hil, vTerms, ← ht, Term.cells, a, b, za4.rs, hbad (by simp [b])]
          · simp -dsimp [h, At, hil, vTerms, ← ht, Term.cells, a, b]
      try clear h
      rintro ⟨sl, hp, bs⟩ ⟨hb, rfl, h⟩
      simp only [zaa, zab, zad] at h
      have hx2 : badVarB n (l.take (i + 1)) = false := by
        unfold badVarB at hx ⊢
        rw [anyTake1 hil, hx, ← ht, hb]; rfl
      simp -dsimp [h, At, hw, hil, vTerms, hx2]
    · have hil' : i = l.length := by omega
      subst hil'
      rw [List.take_length] at hx
      simp -dsimp [h, At, vTerms, hx]
  try clear h
  rintro ⟨sl, hp, bs⟩ ⟨hb, rfl, h⟩
  simp only [zaa, zab, zad] at h
  have hT : termsR l n = if badCoefB l then 45 else 0 := by unfold termsR; rw [hb]; rfl
  rw [hT]
  refine zac (fun st => badCoefB l = false ∧ At [] [] st) ?_ ?_
  · refine zac (At [(0, vTerms l), (6, V.i 0)] []) (by simp -dsimp [h, At]) ?_
    try clear h
    rintro ⟨sl, hp, bs⟩ ⟨rfl, h⟩
    simp only [zaa, zab, zad] at h
    refine zag (zbY 0 (by simp) l.length (fun i st => badCoefB (l.take i) = false ∧ At [(0, vTerms l), (6, V.i i)] [] st) ⟨rfl, rfl, by simpa using h⟩ ?_)
    clear h
    rintro i ⟨sl, hp, bs⟩ hi ⟨hx, rfl, h⟩
    simp only [zaa, zab] at h
    unfold za4.b1
    by_cases hil : i < l.length
    · have hw : IntKind.i64.wrap ((i : Int) + 1) = ((i + 1 : Nat) : Int) := by rw [wrap64] <;> omega
      refine zac (At [(0, vTerms l), (6, V.i i)] []) (by simp -dsimp [h, At, hil, vTerms]) ?_
      try clear h
      rintro ⟨sl, hp, bs⟩ ⟨rfl, h⟩
      simp only [zaa, zab, zad] at h
      obtain ⟨t, ht⟩ : ∃ t, t = l[i] := ⟨_, rfl⟩
      refine zac (fun st => (decide (t.c = 0) || !withinB t.c 1000000) = false ∧ At [(0, vTerms l), (6, V.i i)] [] st) ?_ ?_
      · refine zag ?_
        have hbad : (decide (t.c = 0) || !withinB t.c 1000000) = true → badCoefB l = true := fun e => zd1 hil (by rw [← ht]; exact e)
        simp -dsimp [h, hil, vTerms, ← ht, Term.cells]
        refine gcall (ziU t.c) (by simp -dsimp [h]) (by simp -dsimp [h]) ?_
        cases a : (decide (t.c = 0) || !withinB t.c 1000000)
        · simp -dsimp [h, At, a, vTerms]
        · simp -dsimp [h, a, hbad a, za4.rs]
      try clear h
      rintro ⟨sl, hp, bs⟩ ⟨hb, rfl, h⟩
      simp only [zaa, zab, zad] at h
      have hx2 : badCoefB (l.take (i + 1)) = false := by
        unfold badCoefB at hx ⊢
        rw [anyTake1 hil, hx, ← ht, hb]; rfl
      simp -dsimp [h, At, hw, hil, vTerms, hx2]
    · have hil' : i = l.length := by omega
      subst hil'
      rw [List.take_length] at hx
      simp -dsimp [h, At, vTerms, hx]
  try clear h
  rintro ⟨sl, hp, bs⟩ ⟨hb, rfl, h⟩
  simp -dsimp [za4.rs, hb]
def oddB (k : Nat) (l : List (List Int)) : Bool := l.any fun r => decide (r.length ≠ k)
theorem zjg (c : Con) (hc : c.rows.length ≤ maxLen) : Pf Tryz.prog zbv.id [.agg c.cells] (.bool (rowsR c)) := by
  have hM : (maxLen : Int) ≤ 9223372036854775807 := by decide
  refine DC.of zbv.ok (by simp) ?_
  unfold zbv.ir
  refine zac (At [(1, .ptr 0 1 0 0)] [.mem false [] [c.cells]]) (by simp -dsimp [At, Con.cells, vTerms, vInts, vIntss]) ?_
  try clear h
  rintro ⟨sl, hp, bs⟩ ⟨rfl, h⟩
  simp only [zaa, zab, zad] at h
  refine zac (fun st => (decide (8 < c.xs.length) || manyB c.rows.length) = false ∧ At [(1, .ptr 0 1 0 0)] [.mem false [] [c.cells]] st) ?_ ?_
  · by_cases h8 : 8 < c.xs.length
    · have h8' : (8 : Int) < c.xs.length := by omega
      have hr : rowsR c = false := by simp [rowsR, h8]
      simp -dsimp [h, Con.cells, vTerms, vInts, vIntss, h8', zbv.rs, hr]
    · have h8' : ¬ (8 : Int) < c.xs.length := by omega
      simp -dsimp [h, Con.cells, vTerms, vInts, vIntss, h8']
      refine gcall (zdO c.rows.length) (by simp -dsimp [h]) (by simp -dsimp [h]) ?_
      cases a : manyB c.rows.length
      · simp -dsimp [h, At, h8, Con.cells, vTerms, vInts, vIntss]
      · have hr : rowsR c = false := by simp [rowsR, a]
        simp -dsimp [h, hr, zbv.rs]
  try clear h
  rintro ⟨sl, hp, bs⟩ ⟨hb, rfl, h⟩
  simp only [zaa, zab, zad] at h
  have hR : rowsR c = !(oddB c.xs.length c.rows) := by
    have e : ∀ l : List (List Int), (l.all fun r => decide (r.length = c.xs.length)) = !(oddB c.xs.length l) := fun l => by
      unfold oddB
      induction l with
      | nil => rfl
      | cons a l ih => rw [List.all_cons, List.any_cons, ih]; by_cases e : a.length = c.xs.length <;> simp [e]
    unfold rowsR; rw [hb, e]; rfl
  rw [hR]
  refine zac (fun st => (oddB c.xs.length c.rows) = false ∧ At [] [.mem false [] [c.cells]] st) ?_ ?_
  · refine zac (At [(1, .ptr 0 1 0 0), (3, V.i 0)] [.mem false [] [c.cells]]) (by simp -dsimp [h, At]) ?_
    try clear h
    rintro ⟨sl, hp, bs⟩ ⟨rfl, h⟩
    simp only [zaa, zab, zad] at h
    refine zag (zbY 1 (by simp) c.rows.length (fun i st => oddB c.xs.length (c.rows.take i) = false ∧ At [(1, .ptr 0 1 0 0), (3, V.i i)] [.mem false [] [c.cells]] st) ⟨rfl, rfl, by simpa using h⟩ ?_)
    clear h
    rintro i ⟨sl, hp, bs⟩ hi ⟨hx, rfl, h⟩
    simp only [zaa, zab] at h
    unfold zbv.b0
    by_cases hil : i < c.rows.length
    · have hw : IntKind.i64.wrap ((i : Int) + 1) = ((i + 1 : Nat) : Int) := by rw [wrap64] <;> omega
      refine zac (At [(1, .ptr 0 1 0 0), (3, V.i i)] [.mem false [] [c.cells]]) (by simp -dsimp [h, At, hil, Con.cells, vTerms, vInts, vIntss]) ?_
      try clear h
      rintro ⟨sl, hp, bs⟩ ⟨rfl, h⟩
      simp only [zaa, zab, zad] at h
      obtain ⟨t, ht⟩ : ∃ t, t = c.rows[i] := ⟨_, rfl⟩
      refine zac (fun st => (decide (t.length ≠ c.xs.length)) = false ∧ At [(1, .ptr 0 1 0 0), (3, V.i i)] [.mem false [] [c.cells]] st) ?_ ?_
      · refine zag ?_
        have hbad : t.length ≠ c.xs.length → (oddB c.xs.length c.rows) = true := fun e => zd1 hil (by rw [← ht]; simp [e])
        have ei : ((t.length : Int) = c.xs.length) ↔ t.length = c.xs.length := by omega
        by_cases a : t.length = c.xs.length
        · simp -dsimp [h, At, hil, ← ht, Con.cells, vTerms, vInts, vIntss, a, ei]
        · simp -dsimp [h, At, hil, ← ht, Con.cells, vTerms, vInts, vIntss, a, ei, zbv.rs, hbad a]
      try clear h
      rintro ⟨sl, hp, bs⟩ ⟨hb, rfl, h⟩
      simp only [zaa, zab, zad] at h
      have hx2 : oddB c.xs.length (c.rows.take (i + 1)) = false := by
        unfold oddB at hx ⊢; rw [anyTake1 hil, hx, ← ht, hb]; rfl
      simp -dsimp [h, At, hw, hil, hx2, Con.cells, vTerms, vInts, vIntss]
    · have hil' : i = c.rows.length := by omega
      subst hil'
      rw [List.take_length] at hx
      simp -dsimp [h, At, hx, Con.cells, vTerms, vInts, vIntss]
  try clear h
  rintro ⟨sl, hp, bs⟩ ⟨hb, rfl, h⟩
  simp -dsimp [zbv.rs, hb]
theorem zhG (c : Con) (n : Int) (hc : c.xs.length ≤ maxLen) : Pf Tryz.prog zbz.id [.agg c.cells, V.i n] (.bool (placesR c n)) := by
  have hM : (maxLen : Int) ≤ 9223372036854775807 := by decide
  refine DC.of zbz.ok (by simp) ?_
  unfold zbz.ir
  refine zac (At [(1, V.i n), (2, .ptr 0 1 0 0)] [.mem false [] [c.cells]]) (by simp -dsimp [At, Con.cells, vTerms, vInts, vIntss]) ?_
  try clear h
  rintro ⟨sl, hp, bs⟩ ⟨rfl, h⟩
  simp only [zaa, zab, zad] at h
  refine zac (At [(1, V.i n), (2, .ptr 0 1 0 0), (5, .bool (placeR c.x n && placeR c.y n))] [.mem false [] [c.cells]]) ?_ ?_
  · simp -dsimp [h, Con.cells, vTerms, vInts, vIntss]
    refine gcall (zer c.x n) (by simp -dsimp [h]) (by simp -dsimp [h]) ?_
    cases a : placeR c.x n
    · simp -dsimp [h, At, Con.cells, vTerms, vInts, vIntss]
    · simp -dsimp [h, Con.cells, vTerms, vInts, vIntss]
      refine gcall (zer c.y n) (by simp -dsimp [h]) (by simp -dsimp [h]) ?_
      simp -dsimp [h, At, Con.cells, vTerms, vInts, vIntss]
  try clear h
  rintro ⟨sl, hp, bs⟩ ⟨rfl, h⟩
  simp only [zaa, zab, zad] at h
  have hA : ∀ (b : Bool) (i : Nat) (hi : i < c.xs.length), (b && (c.xs.take (i + 1)).all fun x => placeR x n) = ((b && (c.xs.take i).all fun x => placeR x n) && placeR c.xs[i] n) := fun b i hi => by
    rw [List.take_succ_eq_append_getElem hi, List.all_append]; simp [Bool.and_assoc]
  refine zac (At [(5, .bool (placesR c n))] [.mem false [] [c.cells]]) ?_ ?_
  · refine zac (At [(1, V.i n), (2, .ptr 0 1 0 0), (5, .bool (placeR c.x n && placeR c.y n)), (6, V.i 0)] [.mem false [] [c.cells]]) (by simp -dsimp [h, At]) ?_
    try clear h
    rintro ⟨sl, hp, bs⟩ ⟨rfl, h⟩
    simp only [zaa, zab, zad] at h
    refine zag (zbY 1 (by simp) c.xs.length (fun i st => At [(1, V.i n), (2, .ptr 0 1 0 0), (5, .bool ((placeR c.x n && placeR c.y n) && (c.xs.take i).all fun x => placeR x n)), (6, V.i i)] [.mem false [] [c.cells]] st) ⟨rfl, by simpa using h⟩ ?_)
    clear h
    rintro i ⟨sl, hp, bs⟩ hi ⟨rfl, h⟩
    simp only [zaa, zab] at h
    unfold zbz.b0
    by_cases hil : i < c.xs.length
    · have hw : IntKind.i64.wrap ((i : Int) + 1) = ((i + 1 : Nat) : Int) := by rw [wrap64] <;> omega
      rw [hA _ i hil]
      cases a : ((placeR c.x n && placeR c.y n) && (c.xs.take i).all fun x => placeR x n)
      · rw [a] at h
        simp -dsimp [h, At, hil, hw, Con.cells, vTerms, vInts, vIntss]
      · rw [a] at h
        simp -dsimp [h, hil, Con.cells, vTerms, vInts, vIntss]
        refine gcall (zer c.xs[i] n) (by simp -dsimp [h]) (by simp -dsimp [h]) ?_
        simp -dsimp [h, At, hil, hw, Con.cells, vTerms, vInts, vIntss]
    · have hil' : i = c.xs.length := by omega
      subst hil'
      rw [List.take_length] at h
      simp -dsimp [h, At, placesR, Con.cells, vTerms, vInts, vIntss]
  try clear h
  rintro ⟨sl, hp, bs⟩ ⟨rfl, h⟩
  simp only [zaa, zab, zad] at h
  simp -dsimp [h, zbz.rs]
end Go.Abs.G

namespace Go.Abs.G
open Go.Proofs
theorem zek {l : List Int} {i : Nat} (h : i < l.length) (hb : withinB l[i] 1000000000 = false) : greatB l = true := zd1 h (by rw [hb]; rfl)
theorem zgj (c : Con) (n : Int) (hc : okCon c) : Pf Tryz.prog zaO.id [.agg c.cells, V.i n] (V.i (conR c n)) := by
  have hM : (maxLen : Int) ≤ 9223372036854775807 := by decide
  obtain ⟨_, _, ht, _, _, _, _, hx, hb, hr, hrr⟩ := hc
  replace ht := ht.1
  replace hx := hx.1
  replace hb := hb.1
  refine DC.of zaO.ok (by simp) ?_
  unfold zaO.ir
  refine zac (At [(1, V.i n), (2, .ptr 0 1 0 0)] [.mem false [] [c.cells]]) (by simp -dsimp [At, Con.cells, vTerms, vInts, vIntss]) ?_
  try clear h
  rintro ⟨sl, hp, bs⟩ ⟨rfl, h⟩
  simp only [zaa, zab, zad] at h
  obtain ⟨A, hA⟩ : ∃ A, A = (decide (c.kind < 1) || decide (9 < c.kind) || ((decide (c.kind = 1) || decide (c.kind = 9)) && (decide (c.op < 1) || decide (3 < c.op)))) := ⟨_, rfl⟩
  refine zac (fun st => A = false ∧ At [(1, V.i n), (2, .ptr 0 1 0 0)] [.mem false [] [c.cells]] st) ?_ ?_
  · refine zac (At [(1, V.i n), (2, .ptr 0 1 0 0), (37, .bool A)] [.mem false [] [c.cells]]) ?_ ?_
    · by_cases k1 : c.kind < 1
      · simp -dsimp [h, At, k1, hA, Con.cells, vTerms, vInts, vIntss]
      · by_cases k9 : 9 < c.kind
        · simp -dsimp [h, At, k1, k9, hA, Con.cells, vTerms, vInts, vIntss]
        · by_cases e1 : c.kind = 1
          · by_cases o1 : c.op < 1
            · simp -dsimp [h, At, e1, o1, hA, Con.cells, vTerms, vInts, vIntss]
            · simp -dsimp [h, At, e1, o1, hA, Con.cells, vTerms, vInts, vIntss]
          · by_cases e9 : c.kind = 9
            · by_cases o1 : c.op < 1
              · simp -dsimp [h, At, e9, o1, hA, Con.cells, vTerms, vInts, vIntss]
              · simp -dsimp [h, At, e9, o1, hA, Con.cells, vTerms, vInts, vIntss]
            · simp -dsimp [h, At, e1, e9, k1, k9, hA, Con.cells, vTerms, vInts, vIntss]
    try clear h
    rintro ⟨sl, hp, bs⟩ ⟨rfl, h⟩
    simp only [zaa, zab, zad] at h
    cases hAA : A
    · rw [hAA] at h
      simp -dsimp [h, At]
    · rw [hAA] at h
      have hC : conR c n = 43 := by unfold conR; rw [← hA, hAA]; rfl
      simp -dsimp [h, hC, zaO.rs]
  try clear h
  rintro ⟨sl, hp, bs⟩ ⟨hAA, rfl, h⟩
  simp only [zaa, zab, zad] at h
  unfold conR
  rw [← hA, hAA, if_neg (by simp)]
  refine zac (fun st => foreignB c = false ∧ At [(1, V.i n), (2, .ptr 0 1 0 0)] [.mem false [] [c.cells]] st) ?_ ?_
  · simp -dsimp [h, Con.cells, vTerms, vInts, vIntss]
    refine gcall (zgJ c) (by simp -dsimp [h, Con.cells, vTerms, vInts, vIntss]) (by simp -dsimp [h, Con.cells, vTerms, vInts, vIntss]) ?_
    cases a : foreignB c
    · simp -dsimp [h, At, Con.cells, vTerms, vInts, vIntss]
    · simp -dsimp [h, zaO.rs]
  try clear h
  rintro ⟨sl, hp, bs⟩ ⟨hB, rfl, h⟩
  simp only [zaa, zab, zad] at h
  rw [if_neg (by simp [hB])]
  refine zac (At [(1, V.i n), (2, .ptr 0 1 0 0), (5, .bool (foS c))] [.mem false [] [c.cells]]) ?_ ?_
  · by_cases k : c.kind = 1
    · simp -dsimp [h, At, k, foS, Con.cells, vTerms, vInts, vIntss]
    · simp -dsimp [h, At, k, foS, Bool.beq_eq_decide_eq, Con.cells, vTerms, vInts, vIntss]
  try clear h
  rintro ⟨sl, hp, bs⟩ ⟨rfl, h⟩
  simp only [zaa, zab, zad] at h
  obtain ⟨M1, hM1⟩ : ∃ M1, M1 = (foS c && manyB c.terms.length) := ⟨_, rfl⟩
  obtain ⟨M2, hM2⟩ : ∃ M2, M2 = (M1 || (listsB c.kind && manyB c.xs.length)) := ⟨_, rfl⟩
  obtain ⟨M3, hM3⟩ : ∃ M3, M3 = (M2 || (decide (c.kind = 4) && manyB c.table.length)) := ⟨_, rfl⟩
  obtain ⟨M4, hM4⟩ : ∃ M4, M4 = (M3 || (decide (c.kind = 8) && !rowsR c)) := ⟨_, rfl⟩
  have hMM : (((decide (c.kind = 1) || decide (c.kind = 7)) && manyB c.terms.length) || (listsB c.kind && manyB c.xs.length) || (decide (c.kind = 4) && manyB c.table.length) || (decide (c.kind = 8) && !rowsR c)) = M4 := by rw [hM4, hM3, hM2, hM1]; rfl
  rw [hMM]
  refine zac (fun st => M4 = false ∧ At [(1, V.i n), (2, .ptr 0 1 0 0)] [.mem false [] [c.cells]] st) ?_ ?_
  · refine zac (At [(1, V.i n), (2, .ptr 0 1 0 0), (86, .bool M4)] [.mem false [] [c.cells]]) ?_ ?_
    · refine zeQ (zcT 8 (At [(1, V.i n), (2, .ptr 0 1 0 0), (55, .bool M1)] [.mem false [] [c.cells]]) ?_ ?_)
      · obtain ⟨S, hS⟩ : ∃ S, S = foS c := ⟨_, rfl⟩
        rw [← hS] at h hM1
        cases S
        · simp -dsimp [h, At, hM1]
        · simp -dsimp [h, Con.cells, vTerms, vInts, vIntss]
          refine gcall (zdO c.terms.length) (by simp -dsimp [h]) (by simp -dsimp [h]) ?_
          simp -dsimp [h, At, hM1, Con.cells, vTerms, vInts, vIntss]
      try clear h
      rintro ⟨sl, hp, bs⟩ ⟨rfl, h⟩
      simp only [zaa, zab, zad] at h
      refine zcT 11 (At [(1, V.i n), (2, .ptr 0 1 0 0), (66, .bool M2)] [.mem false [] [c.cells]]) ?_ ?_
      · cases M1
        · simp -dsimp [h, Con.cells, vTerms, vInts, vIntss]
          refine gcall (zfB c.kind) (by simp -dsimp [h]) (by simp -dsimp [h]) ?_
          cases b : listsB c.kind
          · simp -dsimp [h, At, hM2, b, Con.cells, vTerms, vInts, vIntss]
          · simp -dsimp [h, b, Con.cells, vTerms, vInts, vIntss]
            refine gcall (zdO c.xs.length) (by simp -dsimp [h]) (by simp -dsimp [h]) ?_
            simp -dsimp [h, At, hM2, b, Con.cells, vTerms, vInts, vIntss]
        · simp -dsimp [h, At, hM2]
      try clear h
      rintro ⟨sl, hp, bs⟩ ⟨rfl, h⟩
      simp only [zaa, zab, zad] at h
      refine zcT 11 (At [(1, V.i n), (2, .ptr 0 1 0 0), (77, .bool M3)] [.mem false [] [c.cells]]) ?_ ?_
      · cases M2
        · by_cases k4 : c.kind = 4
          · simp -dsimp [h, k4, Con.cells, vTerms, vInts, vIntss]
            refine gcall (zdO c.table.length) (by simp -dsimp [h]) (by simp -dsimp [h]) ?_
            simp -dsimp [h, At, hM3, k4, Con.cells, vTerms, vInts, vIntss]
          · simp -dsimp [h, At, hM3, k4, Con.cells, vTerms, vInts, vIntss]
        · simp -dsimp [h, At, hM3]
      try clear h
      rintro ⟨sl, hp, bs⟩ ⟨rfl, h⟩
      simp only [zaa, zab, zad] at h
      cases M3
      · by_cases k8 : c.kind = 8
        · have hcc : c.cells = [V.i 8, V.i c.op, vTerms c.terms, V.i c.k, V.i c.v, V.i c.x, V.i c.y, vInts c.xs, vInts c.table, vIntss c.rows] := by rw [← k8]; rfl
          simp -dsimp [h, Con.cells, k8, vTerms, vInts, vIntss]
          refine gcall (zjg c hr) (by simp -dsimp [h, Con.cells, k8, vTerms, vInts, vIntss]) (by simp -dsimp [h, Con.cells, vTerms, vInts, vIntss]) ?_
          simp -dsimp [h, At, hM4, k8, Con.cells, vTerms, vInts, vIntss]
        · simp -dsimp [h, At, hM4, k8, Con.cells, vTerms, vInts, vIntss]
      · simp -dsimp [h, At, hM4]
    try clear h
    rintro ⟨sl, hp, bs⟩ ⟨rfl, h⟩
    simp only [zaa, zab, zad] at h
    cases hAA : M4
    · rw [hAA] at h
      simp -dsimp [h, At]
    · rw [hAA] at h
      simp -dsimp [h, zaO.rs]
  try clear h
  rintro ⟨sl, hp, bs⟩ ⟨hM4', rfl, h⟩
  simp only [zaa, zab, zad] at h
  rw [hM4', if_neg (by simp)]
  refine zac (At [(1, V.i n), (2, .ptr 0 1 0 0), (6, V.i (termsR c.terms n))] [.mem false [] [c.cells]]) ?_ ?_
  · simp -dsimp [h, Con.cells, vTerms, vInts, vIntss]
    refine gcall (zfT c.terms n ht) (by simp -dsimp [h, vTerms]) (by simp -dsimp [h, vTerms]) ?_
    simp -dsimp [h, At, Con.cells, vTerms, vInts, vIntss]
  try clear h
  rintro ⟨sl, hp, bs⟩ ⟨rfl, h⟩
  simp only [zaa, zab, zad] at h
  obtain ⟨T, hT⟩ : ∃ T, T = termsR c.terms n := ⟨_, rfl⟩
  rw [← hT] at h ⊢
  refine zac (fun st => (!placesR c n || decide (T = 44)) = false ∧ At [(2, .ptr 0 1 0 0), (6, V.i T)] [.mem false [] [c.cells]] st) ?_ ?_
  · simp -dsimp [h, Con.cells, vTerms, vInts, vIntss]
    refine gcall (zhG c n hx) (by simp -dsimp [h, Con.cells, vTerms, vInts, vIntss]) (by simp -dsimp [h, Con.cells, vTerms, vInts, vIntss]) ?_
    cases a : placesR c n
    · simp -dsimp [h, zaO.rs]
    · by_cases e : T = 44
      · simp -dsimp [h, e, zaO.rs]
      · simp -dsimp [h, At, e, Con.cells, vTerms, vInts, vIntss]
  try clear h
  rintro ⟨sl, hp, bs⟩ ⟨hP, rfl, h⟩
  simp only [zaa, zab, zad] at h
  rw [hP, if_neg (by simp)]
  refine zac (fun st => T = 0 ∧ At [(2, .ptr 0 1 0 0)] [.mem false [] [c.cells]] st) ?_ ?_
  · by_cases e : T = 0
    · simp -dsimp [h, At, e]
    · simp -dsimp [h, e, zaO.rs]
  try clear h
  rintro ⟨sl, hp, bs⟩ ⟨hT0, rfl, h⟩
  simp only [zaa, zab, zad] at h
  rw [if_neg (by simp [hT0])]
  refine zac (fun st => (!withinB c.k 1000000000 || !withinB c.v 1000000000) = false ∧ At [(2, .ptr 0 1 0 0)] [.mem false [] [c.cells]] st) ?_ ?_
  · simp -dsimp [h, Con.cells, vTerms, vInts, vIntss]
    refine gcall (zds c.k) (by simp -dsimp [h]) (by simp -dsimp [h]) ?_
    cases a : withinB c.k 1000000000
    · simp -dsimp [h, zaO.rs]
    · simp -dsimp [h]
      refine gcall (zds c.v) (by simp -dsimp [h]) (by simp -dsimp [h]) ?_
      cases b : withinB c.v 1000000000
      · simp -dsimp [h, zaO.rs]
      · simp -dsimp [h, At, Con.cells, vTerms, vInts, vIntss]
  try clear h
  rintro ⟨sl, hp, bs⟩ ⟨hK, rfl, h⟩
  simp only [zaa, zab, zad] at h
  rw [hK, if_neg (by simp)]
  have hM9 := hM
  refine zac (fun st => c.rows.any greatB = false ∧ At [(2, .ptr 0 1 0 0)] [.mem false [] [c.cells]] st) ?_ ?_
  · refine zac (At [(2, .ptr 0 1 0 0), (7, V.i 0)] [.mem false [] [c.cells]]) (by simp -dsimp [h, At]) ?_
    try clear h
    rintro ⟨sl, hp, bs⟩ ⟨rfl, h⟩
    simp only [zaa, zab, zad] at h
    refine zag (zbY 1 (by simp) c.rows.length (fun i st => (c.rows.take i).any greatB = false ∧ At [(2, .ptr 0 1 0 0), (7, V.i i)] [.mem false [] [c.cells]] st) ⟨rfl, rfl, by simpa using h⟩ ?_)
    clear h
    rintro i ⟨sl, hp, bs⟩ hi ⟨hx, rfl, h⟩
    simp only [zaa, zab] at h
    unfold zaO.b0
    by_cases hil : i < c.rows.length
    · have hw : IntKind.i64.wrap ((i : Int) + 1) = ((i + 1 : Nat) : Int) := by rw [wrap64] <;> omega
      refine zac (At [(2, .ptr 0 1 0 0), (7, V.i i)] [.mem false [] [c.cells]]) (by simp -dsimp [h, At, hil, Con.cells, vTerms, vInts, vIntss]) ?_
      try clear h
      rintro ⟨sl, hp, bs⟩ ⟨rfl, h⟩
      simp only [zaa, zab, zad] at h
      obtain ⟨t, ht'⟩ : ∃ t, t = c.rows[i] := ⟨_, rfl⟩
      have hlt : t.length ≤ maxLen := by rw [ht']; exact (hrr _ (List.getElem_mem hil)).1
      refine zac (fun st => greatB t = false ∧ At [(2, .ptr 0 1 0 0), (7, V.i i)] [.mem false [] [c.cells]] st) ?_ ?_
      · refine zag ?_
        refine zac (At [(2, .ptr 0 1 0 0), (7, V.i i), (8, V.i 0)] [.mem false [] [c.cells]]) (by simp -dsimp [h, At]) ?_
        try clear h
        rintro ⟨sl, hp, bs⟩ ⟨rfl, h⟩
        simp only [zaa, zab, zad] at h
        refine zag (zbY 1 (by simp) t.length (fun j st => greatB (t.take j) = false ∧ At [(2, .ptr 0 1 0 0), (7, V.i i), (8, V.i j)] [.mem false [] [c.cells]] st) ⟨rfl, rfl, by simpa using h⟩ ?_)
        clear h
        rintro j ⟨sl, hp, bs⟩ hj ⟨hg, rfl, h⟩
        simp only [zaa, zab] at h
        unfold zaO.b1
        by_cases hjl : j < t.length
        · have hw : IntKind.i64.wrap ((j : Int) + 1) = ((j + 1 : Nat) : Int) := by rw [wrap64] <;> omega
          refine zac (At [(2, .ptr 0 1 0 0), (7, V.i i), (8, V.i j)] [.mem false [] [c.cells]]) (by simp -dsimp [h, At, hil, hjl, ← ht', Con.cells, vTerms, vInts, vIntss]) ?_
          try clear h
          rintro ⟨sl, hp, bs⟩ ⟨rfl, h⟩
          simp only [zaa, zab, zad] at h
          refine zac (fun st => withinB t[j] 1000000000 = true ∧ At [(2, .ptr 0 1 0 0), (7, V.i i), (8, V.i j)] [.mem false [] [c.cells]] st) ?_ ?_
          · refine zag ?_
            simp -dsimp [h, hil, hjl, ← ht', Con.cells, vTerms, vInts, vIntss]
            refine gcall (zds t[j]) (by simp -dsimp [h]) (by simp -dsimp [h]) ?_
            cases a : withinB t[j] 1000000000
            · have hbad : c.rows.any greatB = true := zd1 hil (by rw [← ht']; exact zek hjl a)
              simp -dsimp [h, hbad, zaO.rs]
            · simp -dsimp [h, At, Con.cells, vTerms, vInts, vIntss]
          try clear h
          rintro ⟨sl, hp, bs⟩ ⟨hb, rfl, h⟩
          simp only [zaa, zab, zad] at h
          have hx2 : greatB (t.take (j + 1)) = false := by
            unfold greatB at hg ⊢
            rw [anyTake1 hjl, hg, hb]; rfl
          simp -dsimp [h, At, hw, hjl, hx2, Con.cells, vTerms, vInts, vIntss]
        · have hjl' : j = t.length := by omega
          subst hjl'
          rw [List.take_length] at hg
          simp -dsimp [h, At, hg, hil, ← ht', Con.cells, vTerms, vInts, vIntss]
      try clear h
      rintro ⟨sl, hp, bs⟩ ⟨hb, rfl, h⟩
      simp only [zaa, zab, zad] at h
      have hx2 : (c.rows.take (i + 1)).any greatB = false := by
        rw [anyTake1 hil, hx, ← ht', hb]; rfl
      rw [hx2]
      simp -dsimp [h, At, hw, hil, Con.cells, vTerms, vInts, vIntss]
    · have hil' : i = c.rows.length := by omega
      subst hil'
      rw [List.take_length] at hx
      rw [hx]
      simp -dsimp [h, At, Con.cells, vTerms, vInts, vIntss]
  try clear h
  rintro ⟨sl, hp, bs⟩ ⟨hR, rfl, h⟩
  simp only [zaa, zab, zad] at h
  rw [hR, if_neg (by simp)]
  refine zac (fun st => greatB c.table = false ∧ At [] [.mem false [] [c.cells]] st) ?_ ?_
  · refine zac (At [(2, .ptr 0 1 0 0), (9, V.i 0)] [.mem false [] [c.cells]]) (by simp -dsimp [h, At]) ?_
    try clear h
    rintro ⟨sl, hp, bs⟩ ⟨rfl, h⟩
    simp only [zaa, zab, zad] at h
    refine zag (zbY 1 (by simp) c.table.length (fun j st => greatB (c.table.take j) = false ∧ At [(2, .ptr 0 1 0 0), (9, V.i j)] [.mem false [] [c.cells]] st) ⟨rfl, rfl, by simpa using h⟩ ?_)
    clear h
    rintro j ⟨sl, hp, bs⟩ hj ⟨hg, rfl, h⟩
    simp only [zaa, zab] at h
    unfold zaO.b2
    by_cases hjl : j < c.table.length
    · have hw : IntKind.i64.wrap ((j : Int) + 1) = ((j + 1 : Nat) : Int) := by rw [wrap64] <;> omega
      refine zac (At [(2, .ptr 0 1 0 0), (9, V.i j)] [.mem false [] [c.cells]]) (by simp -dsimp [h, At, hjl, Con.cells, vTerms, vInts, vIntss]) ?_
      try clear h
      rintro ⟨sl, hp, bs⟩ ⟨rfl, h⟩
      simp only [zaa, zab, zad] at h
      refine zac (fun st => withinB c.table[j] 1000000000 = true ∧ At [(2, .ptr 0 1 0 0), (9, V.i j)] [.mem false [] [c.cells]] st) ?_ ?_
      · refine zag ?_
        simp -dsimp [h, hjl, Con.cells, vTerms, vInts, vIntss]
        refine gcall (zds c.table[j]) (by simp -dsimp [h]) (by simp -dsimp [h]) ?_
        cases a : withinB c.table[j] 1000000000
        · have hbad : greatB c.table = true := zek hjl a
          simp -dsimp [h, hbad, zaO.rs]
        · simp -dsimp [h, At, Con.cells, vTerms, vInts, vIntss]
      try clear h
      rintro ⟨sl, hp, bs⟩ ⟨hb, rfl, h⟩
      simp only [zaa, zab, zad] at h
      have hx2 : greatB (c.table.take (j + 1)) = false := by
        unfold greatB at hg ⊢
        rw [anyTake1 hjl, hg, hb]; rfl
      simp -dsimp [h, At, hw, hjl, hx2, Con.cells, vTerms, vInts, vIntss]
    · have hjl' : j = c.table.length := by omega
      subst hjl'
      rw [List.take_length] at hg
      simp -dsimp [h, At, hg, Con.cells, vTerms, vInts, vIntss]
  try clear h
  rintro ⟨sl, hp, bs⟩ ⟨hR, rfl, h⟩
  simp -dsimp [zaO.rs, hR]
theorem zjI (c : Con) (n : Int) (hn : 0 < n) (hc : okCon c) : Pf Tryz.prog zaO.id [.agg c.cells, V.i n] (V.i (conB c n)) := by
  rw [← zjH c n hn]
  exact zgj c n hc
end Go.Abs.G

namespace Go.Abs.G
open Go.Proofs
def bt (s : ByteArray) (i : Nat) : Nat := (s.data.toList.getD i 0).toNat
theorem bt_lt (s : ByteArray) (i : Nat) : bt s i < 256 := UInt8.toNat_lt _
theorem zd2 (s : ByteArray) (i : Nat) : byteAt s i = (bt s i : Int) := rfl
theorem zms (s : ByteArray) (i : Nat) (h : i < s.size) : (s.get! i).toNat = bt s i := by
  have h' : i < s.data.size := h
  show (s.data[i]!).toNat = (s.data.toList.getD i 0).toNat
  rw [getElem!_pos s.data i h', List.getD_eq_getElem?_getD, List.getElem?_eq_getElem (by simpa using h')]
  simp
def okByte (s : ByteArray) (i : Nat) : Bool := letterB (bt s i) || (decide (i ≠ 0) && decide (48 ≤ bt s i) && decide (bt s i ≤ 57))
theorem zho (s : ByteArray) (i : Nat) (h : i < s.size) (hb : bt s i < 128) : Utf8.decode s i = (bt s i, 1) := by
  rw [← zms s i h] at hb ⊢
  unfold Utf8.decode
  simp only [Nat.add_zero]
  rw [if_pos hb]
theorem zhn (s : ByteArray) (i : Nat) (h : i < s.size) (hb : ¬ bt s i < 128) : 128 ≤ (Utf8.decode s i).1 := by
  rw [← zms s i h] at hb
  unfold Utf8.decode
  simp only [Nat.add_zero]
  rw [if_neg hb]
  repeat' split
  all_goals (first | (unfold Utf8.runeError; omega) | skip)
  all_goals (rename_i hh; simp at hh; simp; try omega)
theorem zfb {r : Nat} (h : 128 ≤ r) : letterB r = false := by simp [letterB]; omega
theorem zhD (s : ByteArray) : ∀ (f pos : Nat), s.size < f + pos → (nameFrom s f pos = true ↔ ∀ j, pos ≤ j → j < s.size → okByte s j = true) := by
  intro f
  induction f with
  | zero => intro pos h; exact ⟨fun _ j h1 h2 => by omega, fun _ => rfl⟩
  | succ f ih =>
    intro pos h
    by_cases hp : pos < s.size
    · rw [zeJ s f pos hp]
      by_cases hb : bt s pos < 128
      · rw [zho s pos hp hb]
        simp only
        have hok : (!letterB (bt s pos) && (decide (pos = 0) || decide (bt s pos < 48) || decide (57 < bt s pos))) = !okByte s pos := by
          unfold okByte
          cases letterB (bt s pos)
          · rw [Bool.eq_iff_iff]; simp; try omega
          · rfl
        rw [hok]
        cases ho : okByte s pos
        · simp
          exact ⟨pos, Nat.le_refl _, hp, ho⟩
        · simp
          rw [ih (pos + 1) (by omega)]
          constructor
          · intro hh j h1 h2
            by_cases e : j = pos
            · rw [e]; exact ho
            · exact hh j (by omega) h2
          · intro hh j h1 h2; exact hh j (by omega) h2
      · have hg := zhn s pos hp hb
        have ho : okByte s pos = false := by
          unfold okByte; rw [zfb (by omega)]; simp; omega
        have : (!letterB (Utf8.decode s pos).1 && (decide (pos = 0) || decide ((Utf8.decode s pos).1 < 48) || decide (57 < (Utf8.decode s pos).1))) = true := by
          rw [zfb hg]; simp; omega
        rw [if_pos this]
        simp
        exact ⟨pos, Nat.le_refl _, hp, ho⟩
    · rw [zfd s _ pos hp]
      exact ⟨fun _ j h1 h2 => by omega, fun _ => rfl⟩
theorem zhC (s : ByteArray) : nameB s = true ↔ 1 ≤ s.size ∧ s.size ≤ 16 ∧ ∀ j, j < s.size → okByte s j = true := by
  unfold nameB
  rw [Bool.and_eq_true, Bool.and_eq_true, decide_eq_true_eq, decide_eq_true_eq, zhD s (s.size + 1) 0 (by omega)]
  constructor
  · rintro ⟨⟨a, b⟩, c⟩; exact ⟨b, c, fun j hj => a j (by omega) hj⟩
  · rintro ⟨a, b, c⟩; exact ⟨⟨fun j _ hj => c j hj, a⟩, b⟩
theorem zjd (s : ByteArray) (hs : s.size ≤ maxLen) : Pf Tryz.prog zbg.id [.str s] (.bool (nameB s)) := by
  have hM : (maxLen : Int) ≤ 9223372036854775807 := by decide
  have hno : ¬ (1 ≤ s.size ∧ s.size ≤ 16 ∧ ∀ j, j < s.size → okByte s j = true) → nameB s = false := fun h => by
    rw [← zhC] at h; simpa using h
  refine DC.of zbg.ok (by simp) ?_
  unfold zbg.ir
  refine zac (At [(0, .str s)] []) (by simp -dsimp [At]) ?_
  try clear h
  rintro ⟨sl, hp, bs⟩ ⟨rfl, h⟩
  simp only [zaa, zab, zad] at h
  refine zac (fun st => (1 ≤ s.size ∧ s.size ≤ 16 ∧ okByte s 0 = true) ∧ At [(0, .str s)] [] st) ?_ ?_
  · by_cases h1 : 1 ≤ s.size
    · have h1' : ¬ (s.size : Int) < 1 := by omega
      by_cases h2 : 16 < s.size
      · have h2' : (16 : Int) < s.size := by omega
        simp -dsimp [h, h1', h2', zbg.rs, hno (by omega)]
      · have h2' : ¬ (16 : Int) < s.size := by omega
        have h3 : 0 < s.size := by omega
        simp -dsimp [h, h1', h2', h3]
        refine gcall (zfa (bt s 0) (bt_lt s 0)) (by simp -dsimp [h, zd2]) (by simp -dsimp [h]) ?_
        cases a : letterB (bt s 0)
        · have hk : nameB s = false := hno fun hh => by
            have := hh.2.2 0 (by omega)
            simp [okByte, a] at this
          simp -dsimp [h, hk, zbg.rs]
        · have hk : okByte s 0 = true := by simp [okByte, a]
          simp -dsimp [h, At, h1, hk]
          omega
    · have h1' : (s.size : Int) < 1 := by omega
      simp -dsimp [h, h1', zbg.rs, hno (by omega)]
  try clear h
  rintro ⟨sl, hp, bs⟩ ⟨⟨g1, g2, g3⟩, rfl, h⟩
  simp only [zaa, zab, zad] at h
  refine zac (fun st => nameB s = true ∧ At [] [] st) ?_ ?_
  · refine zac (At [(0, .str s), (3, V.i 1)] []) (by simp -dsimp [h, At]) ?_
    try clear h
    rintro ⟨sl, hp, bs⟩ ⟨rfl, h⟩
    simp only [zaa, zab, zad] at h
    refine zag (zbY 0 (by simp) (s.size - 1) (fun i st => (∀ j, j < i + 1 → okByte s j = true) ∧ At [(0, .str s), (3, V.i (i + 1))] [] st) ⟨fun j hj => by rw [show j = 0 by omega]; exact g3, rfl, by simpa using h⟩ ?_)
    clear h
    rintro i ⟨sl, hp, bs⟩ hi ⟨hx, rfl, h⟩
    simp only [zaa, zab] at h
    unfold zbg.b0
    by_cases hil : i + 1 < s.size
    · have hw : IntKind.i64.wrap ((i : Int) + 1 + 1) = (i : Int) + 1 + 1 := by rw [wrap64] <;> omega
      have hil' : (i : Int) + 1 < s.size := by omega
      have hn0 : (0 : Int) ≤ (i : Int) + 1 := by omega
      have htn : ((i : Int) + 1).toNat = i + 1 := by omega
      refine zac (At [(0, .str s), (3, V.i (i + 1))] []) (by simp -dsimp [h, At, hil']) ?_
      try clear h
      rintro ⟨sl, hp, bs⟩ ⟨rfl, h⟩
      simp only [zaa, zab, zad] at h
      refine zac (fun st => okByte s (i + 1) = true ∧ At [(0, .str s), (3, V.i (i + 1))] [] st) ?_ ?_
      · refine zag ?_
        have hbad : okByte s (i + 1) = false → nameB s = false := fun e => hno fun hh => by
          rw [hh.2.2 _ hil] at e; cases e
        simp -dsimp [h, hil', hn0]
        refine gcall (zfa (bt s (i + 1)) (bt_lt s _)) (by simp -dsimp [h, zd2, htn]) (by simp -dsimp [h]) ?_
        cases a : letterB (bt s (i + 1))
        · by_cases b1 : bt s (i + 1) < 48
          · have b1' : (bt s (i + 1) : Int) < 48 := by omega
            have ho : okByte s (i + 1) = false := by simp [okByte, a]; omega
            simp -dsimp [h, hil', hn0, htn, zd2, b1', hbad ho, zbg.rs]
          · have b1' : ¬ (bt s (i + 1) : Int) < 48 := by omega
            by_cases b2 : 57 < bt s (i + 1)
            · have b2' : (57 : Int) < bt s (i + 1) := by omega
              have ho : okByte s (i + 1) = false := by simp [okByte, a]; omega
              simp -dsimp [h, hil', hn0, htn, zd2, b1', b2', hbad ho, zbg.rs]
            · have b2' : ¬ (57 : Int) < bt s (i + 1) := by omega
              have ho : okByte s (i + 1) = true := by simp [okByte, a]; omega
              simp -dsimp [h, At, hil', hn0, htn, zd2, b1', b2', ho]
        · have ho : okByte s (i + 1) = true := by simp [okByte, a]
          simp -dsimp [h, At, ho]
      try clear h
      rintro ⟨sl, hp, bs⟩ ⟨hb, rfl, h⟩
      simp only [zaa, zab, zad] at h
      simp -dsimp [h, At, hw]
      refine ⟨by omega, fun j hj => ?_⟩
      by_cases e : j = i + 1
      · rw [e]; exact hb
      · exact hx j (by omega)
    · have hil' : ¬ (i : Int) + 1 < s.size := by omega
      have hk : nameB s = true := (zhC s).2 ⟨g1, g2, fun j hj => hx j (by omega)⟩
      simp -dsimp [h, At, hil', hk]
  try clear h
  rintro ⟨sl, hp, bs⟩ ⟨hb, rfl, h⟩
  simp -dsimp [hb, zbg.rs]
end Go.Abs.G

namespace Go.Abs.G
open Go.Proofs
def varsB (l : List Var) : Int × Int :=
  if l.length = 0 ∨ 32 < l.length then (0, 40)
  else match firstBad (varB l) 0 l with
    | some (i, e) => ((i : Int), e)
    | none => (0, 0)
theorem zh4 {α : Type} (f : Nat → α → Int) : ∀ (l : List α) (k i : Nat) (e : Int), firstBad f k l = some (i, e) → e ≠ 0 := by
  intro l
  induction l with
  | nil => intro k i e h; cases h
  | cons x l ih =>
    intro k i e h
    unfold firstBad at h
    split at h
    · exact ih _ _ _ h
    · rename_i h0; cases h; exact h0
theorem zjk (l : List Var) (hl : l.length ≤ maxLen) (hv : ∀ v ∈ l, okVar v) : Pf Tryz.prog za8.id [vVars l] (.tup [V.i (varsB l).1, V.i (varsB l).2]) := by
  have hM : (maxLen : Int) ≤ 9223372036854775807 := by decide
  refine DC.of za8.ok (by simp) ?_
  unfold za8.ir
  refine zac (At [(0, vVars l)] []) (by simp -dsimp [At, vVars]) ?_
  try clear h
  rintro ⟨sl, hp, bs⟩ ⟨rfl, h⟩
  simp only [zaa, zab, zad] at h
  refine zac (fun st => ¬ (l.length = 0 ∨ 32 < l.length) ∧ At [(0, vVars l)] [] st) ?_ ?_
  · by_cases l0 : l.length = 0
    · have l0' : (l.length : Int) < 1 := by omega
      have hB : varsB l = (0, 40) := by unfold varsB; rw [if_pos (.inl l0)]
      simp -dsimp [h, l0', vVars, za8.rs, hB]
    · have l0' : ¬ (l.length : Int) < 1 := by omega
      by_cases l1 : 32 < l.length
      · have l1' : (32 : Int) < l.length := by omega
        have hB : varsB l = (0, 40) := by unfold varsB; rw [if_pos (.inr l1)]
        simp -dsimp [h, l0', l1', vVars, za8.rs, hB]
      · have l1' : ¬ (32 : Int) < l.length := by omega
        simp -dsimp [h, At, l0', l1', l0, l1, vVars]
        try omega
  try clear h
  rintro ⟨sl, hp, bs⟩ ⟨hn, rfl, h⟩
  simp only [zaa, zab, zad] at h
  have hB : varsB l = match firstBad (varB l) 0 l with | some (i, e) => ((i : Int), e) | none => (0, 0) := by unfold varsB; rw [if_neg hn]
  refine zac (fun st => firstBad (varB l) 0 l = none ∧ At [] [] st) ?_ ?_
  · refine zac (At [(0, vVars l), (4, V.i 0)] []) (by simp -dsimp [h, At, vVars]) ?_
    try clear h
    rintro ⟨sl, hp, bs⟩ ⟨rfl, h⟩
    simp only [zaa, zab, zad] at h
    refine zag (zbY 0 (by simp) l.length (fun i st => firstBad (varB l) 0 l = firstBad (varB l) i (l.drop i) ∧ At [(0, vVars l), (4, V.i i)] [] st) ⟨rfl, rfl, by simpa using h⟩ ?_)
    clear h
    rintro i ⟨sl, hp, bs⟩ hi ⟨hx, rfl, h⟩
    simp only [zaa, zab] at h
    unfold za8.b0
    by_cases hil : i < l.length
    · have hw : IntKind.i64.wrap ((i : Int) + 1) = ((i + 1 : Nat) : Int) := by rw [wrap64] <;> omega
      rw [zdv _ hil] at hx
      refine zac (At [(0, vVars l), (4, V.i i)] []) (by simp -dsimp [h, At, hil, vVars]) ?_
      try clear h
      rintro ⟨sl, hp, bs⟩ ⟨rfl, h⟩
      simp only [zaa, zab, zad] at h
      have hvi := hv _ (List.getElem_mem hil)
      obtain ⟨v, hv'⟩ : ∃ v, v = l[i] := ⟨_, rfl⟩
      rw [← hv'] at hx hvi
      have hbad : ∀ e : Int, e ≠ 0 → varB l i v = e → varsB l = ((i : Int), e) := fun e h0 he => by
        rw [hB, hx, he, if_neg h0]
      refine zac (fun st => varB l i v = 0 ∧ At [(0, vVars l), (4, V.i i)] [] st) ?_ ?_
      · refine zag ?_
        refine zac (fun st => nameB v.name = true ∧ At [(0, vVars l), (4, V.i i)] [] st) ?_ ?_
        · simp -dsimp [h, hil, vVars, ← hv', Var.cells]
          refine gcall (zjd v.name hvi.1) (by simp -dsimp [h]) (by simp -dsimp [h]) ?_
          cases a : nameB v.name
          · have hb := hbad 41 (by decide) (by unfold varB; rw [a]; rfl)
            simp -dsimp [h, hb, za8.rs]
          · simp -dsimp [h, At, vVars]
        try clear h
        rintro ⟨sl, hp, bs⟩ ⟨hnm, rfl, h⟩
        simp only [zaa, zab, zad] at h
        refine zac (fun st => ((l.take i).any fun w => decide (w.name = v.name)) = false ∧ At [(0, vVars l), (4, V.i i)] [] st) ?_ ?_
        · refine zac (At [(0, vVars l), (4, V.i i), (5, V.i 0)] []) (by simp -dsimp [h, At]) ?_
          try clear h
          rintro ⟨sl, hp, bs⟩ ⟨rfl, h⟩
          simp only [zaa, zab, zad] at h
          refine zag (zbY 0 (by simp) i (fun k st => ((l.take k).any fun w => decide (w.name = v.name)) = false ∧ At [(0, vVars l), (4, V.i i), (5, V.i k)] [] st) ⟨rfl, rfl, by simpa using h⟩ ?_)
          clear h
          rintro k ⟨sl, hp, bs⟩ hk ⟨hy, rfl, h⟩
          simp only [zaa, zab] at h
          unfold za8.b1
          by_cases hki : k < i
          · have hw : IntKind.i64.wrap ((k : Int) + 1) = ((k + 1 : Nat) : Int) := by rw [wrap64] <;> omega
            have hkl : k < l.length := by omega
            obtain ⟨w, hw'⟩ : ∃ w, w = l[k] := ⟨_, rfl⟩
            refine zac (At [(0, vVars l), (4, V.i i), (5, V.i k)] []) (by simp -dsimp [h, At, hki, vVars]) ?_
            try clear h
            rintro ⟨sl, hp, bs⟩ ⟨rfl, h⟩
            simp only [zaa, zab, zad] at h
            refine zac (fun st => decide (w.name = v.name) = false ∧ At [(0, vVars l), (4, V.i i), (5, V.i k)] [] st) ?_ ?_
            · refine zag ?_
              by_cases a : w.name = v.name
              · have hany : ((l.take i).any fun w => decide (w.name = v.name)) = true := List.any_eq_true.2 ⟨w, by rw [hw']; exact List.mem_take_iff_getElem.2 ⟨k, by omega, rfl⟩, by simp [a]⟩
                have hb := hbad 41 (by decide) (by unfold varB; rw [hany]; simp)
                simp -dsimp [h, hkl, hil, vVars, ← hv', ← hw', Var.cells, a, hb, za8.rs]
              · have a2 : ¬ w.name.toList = v.name.toList := fun h' => a (zex h')
                simp -dsimp [h, At, hkl, hil, vVars, ← hv', ← hw', Var.cells, a, a2]
            try clear h
            rintro ⟨sl, hp, bs⟩ ⟨hb, rfl, h⟩
            simp only [zaa, zab, zad] at h
            have hx2 : ((l.take (k + 1)).any fun w => decide (w.name = v.name)) = false := by
              rw [anyTake1 hkl, hy, ← hw', hb]; rfl
            rw [hx2]
            simp -dsimp [h, At, hw, hki, vVars]
          · have hki' : k = i := by omega
            subst hki'
            rw [hy]
            simp -dsimp [h, At, vVars]
        try clear h
        rintro ⟨sl, hp, bs⟩ ⟨hany, rfl, h⟩
        simp only [zaa, zab, zad] at h
        have hb : varB l i v = if !withinB v.lo 1000000000 || !withinB v.hi 1000000000 || decide (v.hi < v.lo) || decide (64 ≤ v.hi - v.lo) then 42 else 0 := by
          unfold varB; rw [hnm, hany]; rfl
        have hbn : (!withinB v.lo 1000000000 || !withinB v.hi 1000000000 || decide (v.hi < v.lo) || decide (64 ≤ v.hi - v.lo)) = !boundsR v.lo v.hi := by
          unfold boundsR
          cases withinB v.lo 1000000000
          · rfl
          · cases withinB v.hi 1000000000
            · rfl
            · rw [Bool.eq_iff_iff]; simp; try omega
        rw [hbn] at hb
        simp -dsimp [h, hil, vVars, ← hv', Var.cells]
        refine gcall (zhh v.lo v.hi hvi.2.1 hvi.2.2) (by simp -dsimp [h]) (by simp -dsimp [h]) ?_
        cases a : boundsR v.lo v.hi
        · rw [a] at hb
          have hb := hbad 42 (by decide) hb
          simp -dsimp [h, hb, za8.rs]
        · rw [a] at hb
          have hb : varB l i v = 0 := hb
          simp -dsimp [h, At, hb, vVars]
      try clear h
      rintro ⟨sl, hp, bs⟩ ⟨hb, rfl, h⟩
      simp only [zaa, zab, zad] at h
      rw [if_pos hb] at hx
      simp -dsimp [h, At, hw, hil, vVars, hx]
    · have hil' : i = l.length := by omega
      subst hil'
      rw [List.drop_length] at hx
      simp -dsimp [h, At, vVars, hx, firstBad]
  try clear h
  rintro ⟨sl, hp, bs⟩ ⟨hb, rfl, h⟩
  rw [hb] at hB
  simp -dsimp [hB, za8.rs]
theorem zfr (m : Model) (hm' : okModel m) : Pf Tryz.prog za0.id [.agg m.cells] (.tup [V.i (checkB m).1, V.i (checkB m).2]) := by
  have hM : (maxLen : Int) ≤ 9223372036854775807 := by decide
  obtain ⟨⟨hv, hv'⟩, ⟨hc, hc'⟩, hg, _⟩ := hm'
  refine DC.of za0.ok (by simp) ?_
  unfold za0.ir
  refine zac (At [(1, .ptr 0 1 0 0)] [.mem false [] [m.cells]]) (by simp -dsimp [At, Model.cells, vVars, vCons, vTerms]) ?_
  try clear h
  rintro ⟨sl, hp, bs⟩ ⟨rfl, h⟩
  simp only [zaa, zab, zad] at h
  obtain ⟨a, ha⟩ : ∃ a, a = varsB m.vars := ⟨_, rfl⟩
  refine zac (At [(1, .ptr 0 1 0 0), (4, V.i a.1), (5, V.i a.2)] [.mem false [] [m.cells]]) ?_ ?_
  · simp -dsimp [h, Model.cells, vVars, vCons, vTerms]
    refine gcall (zjk m.vars hv hv') (by simp -dsimp [h, vVars]) (by simp -dsimp [h, vVars]) ?_
    simp -dsimp [h, At, ha, Model.cells, vVars, vCons, vTerms]
  try clear h
  rintro ⟨sl, hp, bs⟩ ⟨rfl, h⟩
  simp only [zaa, zab, zad] at h
  have hne : ∀ (i : Nat) (e : Int), firstBad (varB m.vars) 0 m.vars = some (i, e) → e ≠ 0 := zh4 _ _ _
  refine zac (fun st => (¬ (m.vars.length = 0 ∨ 32 < m.vars.length) ∧ firstBad (varB m.vars) 0 m.vars = none) ∧ At [(1, .ptr 0 1 0 0)] [.mem false [] [m.cells]] st) ?_ ?_
  · by_cases hn : m.vars.length = 0 ∨ 32 < m.vars.length
    · have hA : varsB m.vars = (0, 40) := by unfold varsB; rw [if_pos hn]
      have hC : checkB m = (0, 40) := by unfold checkB; rw [if_pos hn]
      rw [ha, hA] at h
      simp -dsimp [h, hC, za0.rs]
    · cases hf : firstBad (varB m.vars) 0 m.vars with
      | none =>
        have hA : varsB m.vars = (0, 0) := by unfold varsB; rw [if_neg hn, hf]
        rw [ha, hA] at h
        simp -dsimp [h, At]
        have : ¬ m.vars = [] := fun e => hn (.inl (by rw [e]; rfl))
        exact ⟨this, by omega⟩
      | some p =>
        obtain ⟨i, e⟩ := p
        have hA : varsB m.vars = ((i : Int), e) := by unfold varsB; rw [if_neg hn, hf]
        have hC : checkB m = ((i : Int), e) := by unfold checkB; rw [if_neg hn, hf]
        rw [ha, hA] at h
        have := hne i e hf
        simp -dsimp [h, hC, this, za0.rs]
  try clear h
  rintro ⟨sl, hp, bs⟩ ⟨⟨hn, he1⟩, rfl, h⟩
  simp only [zaa, zab, zad] at h
  have hn0 : 0 < m.vars.length := by omega
  refine zac (At [(1, .ptr 0 1 0 0), (6, V.i m.vars.length)] [.mem false [] [m.cells]]) (by simp -dsimp [h, At, Model.cells, vVars, vCons, vTerms]) ?_
  try clear h
  rintro ⟨sl, hp, bs⟩ ⟨rfl, h⟩
  simp only [zaa, zab, zad] at h
  refine zac (fun st => ¬ 64 < m.cons.length ∧ At [(1, .ptr 0 1 0 0), (6, V.i m.vars.length)] [.mem false [] [m.cells]] st) ?_ ?_
  · by_cases l1 : 64 < m.cons.length
    · have l1' : (64 : Int) < m.cons.length := by omega
      have hC : checkB m = ((m.vars.length : Int), 49) := by unfold checkB; rw [if_neg hn, he1]; simp only; rw [if_pos l1]
      simp -dsimp [h, hC, l1', Model.cells, vVars, vCons, vTerms, za0.rs]
    · have l1' : ¬ (64 : Int) < m.cons.length := by omega
      simp -dsimp [h, At, l1', l1, Model.cells, vVars, vCons, vTerms]
  try clear h
  rintro ⟨sl, hp, bs⟩ ⟨hn2, rfl, h⟩
  simp only [zaa, zab, zad] at h
  refine zac (fun st => firstBad (fun _ c => conB c m.vars.length) 0 m.cons = none ∧ At [(1, .ptr 0 1 0 0), (6, V.i m.vars.length)] [.mem false [] [m.cells]] st) ?_ ?_
  · refine zac (At [(1, .ptr 0 1 0 0), (6, V.i m.vars.length), (7, V.i 0)] [.mem false [] [m.cells]]) (by simp -dsimp [h, At]) ?_
    try clear h
    rintro ⟨sl, hp, bs⟩ ⟨rfl, h⟩
    simp only [zaa, zab, zad] at h
    refine zag (zbY 1 (by simp) m.cons.length (fun i st => firstBad (fun _ c => conB c m.vars.length) 0 m.cons = firstBad (fun _ c => conB c m.vars.length) i (m.cons.drop i) ∧ At [(1, .ptr 0 1 0 0), (6, V.i m.vars.length), (7, V.i i)] [.mem false [] [m.cells]] st) ⟨rfl, rfl, by simpa using h⟩ ?_)
    clear h
    rintro i ⟨sl, hp, bs⟩ hi ⟨hx, rfl, h⟩
    simp only [zaa, zab] at h
    unfold za0.b0
    by_cases hil : i < m.cons.length
    · have hw : IntKind.i64.wrap ((i : Int) + 1) = ((i + 1 : Nat) : Int) := by rw [wrap64] <;> omega
      have hw2 : IntKind.i64.wrap ((m.vars.length : Int) + i) = m.vars.length + i := by rw [wrap64] <;> omega
      rw [zdv _ hil] at hx
      refine zac (At [(1, .ptr 0 1 0 0), (6, V.i m.vars.length), (7, V.i i)] [.mem false [] [m.cells]]) (by simp -dsimp [h, At, hil, Model.cells, vVars, vCons, vTerms]) ?_
      try clear h
      rintro ⟨sl, hp, bs⟩ ⟨rfl, h⟩
      simp only [zaa, zab, zad] at h
      have hci := hc' _ (List.getElem_mem hil)
      obtain ⟨c, hcc⟩ : ∃ c, c = m.cons[i] := ⟨_, rfl⟩
      rw [← hcc] at hx hci
      refine zac (fun st => conB c m.vars.length = 0 ∧ At [(1, .ptr 0 1 0 0), (6, V.i m.vars.length), (7, V.i i)] [.mem false [] [m.cells]] st) ?_ ?_
      · refine zag ?_
        refine zac (At [(1, .ptr 0 1 0 0), (5, V.i (conB c m.vars.length)), (6, V.i m.vars.length), (7, V.i i)] [.mem false [] [m.cells]]) ?_ ?_
        · simp -dsimp [h, hil, ← hcc, Model.cells, vVars, vCons, vTerms, Con.cells, vInts, vIntss]
          refine gcall (zjI c m.vars.length (by omega) hci) (by simp -dsimp [h, vVars, vCons, vTerms, Con.cells, vInts, vIntss]) (by simp -dsimp [h, Con.cells, vTerms, vInts, vIntss]) ?_
          simp -dsimp [h, At, Model.cells, vVars, vCons, vTerms, Con.cells, vInts, vIntss]
        try clear h
        rintro ⟨sl, hp, bs⟩ ⟨rfl, h⟩
        simp only [zaa, zab, zad] at h
        by_cases hb : conB c m.vars.length = 0
        · simp -dsimp [h, At, hb]
        · rw [if_neg hb] at hx
          have hC : checkB m = ((m.vars.length : Int) + i, conB c m.vars.length) := by unfold checkB; rw [if_neg hn, he1]; simp only; rw [if_neg hn2, hx]
          simp -dsimp [h, hb, hC, hw2, za0.rs]
      try clear h
      rintro ⟨sl, hp, bs⟩ ⟨hb, rfl, h⟩
      simp only [zaa, zab, zad] at h
      rw [if_pos hb] at hx
      simp -dsimp [h, At, hw, hil, hx, Model.cells, vVars, vCons, vTerms]
    · have hil' : i = m.cons.length := by omega
      subst hil'
      rw [List.drop_length] at hx
      simp -dsimp [h, At, hx, firstBad, Model.cells, vVars, vCons, vTerms]
  try clear h
  rintro ⟨sl, hp, bs⟩ ⟨he2, rfl, h⟩
  simp only [zaa, zab, zad] at h
  have hw2 : IntKind.i64.wrap ((m.vars.length : Int) + m.cons.length) = m.vars.length + m.cons.length := by rw [wrap64] <;> omega
  have hC : checkB m = if goalB m = 0 then (0, 0) else ((m.vars.length : Int) + m.cons.length, goalB m) := by
    unfold checkB; rw [if_neg hn, he1]; simp only; rw [if_neg hn2, he2]
  have hG : m.hasGoal = true → goalB m = if manyB m.goal.length then 47 else termsR m.goal m.vars.length := fun e => by
    unfold goalB termsR manyB countsB
    rw [e]
    by_cases g1 : m.goal.length < 1
    · have : ¬ 1 ≤ m.goal.length := by omega
      simp [g1, this]
    · by_cases g2 : 64 < m.goal.length
      · have : ¬ m.goal.length ≤ 64 := by omega
        simp [g2, this]
      · have h1 : 1 ≤ m.goal.length := by omega
        have h2 : m.goal.length ≤ 64 := by omega
        simp only [g1, g2, h1, h2]
        simp
  refine zac (At [(1, .ptr 0 1 0 0), (4, V.i (m.vars.length + m.cons.length)), (6, V.i m.vars.length)] [.mem false [] [m.cells]]) (by simp -dsimp [h, At, hw2, Model.cells, vVars, vCons, vTerms]) ?_
  try clear h
  rintro ⟨sl, hp, bs⟩ ⟨rfl, h⟩
  simp only [zaa, zab, zad] at h
  refine zac (fun st => m.hasGoal = true ∧ At [(1, .ptr 0 1 0 0), (4, V.i (m.vars.length + m.cons.length)), (6, V.i m.vars.length)] [.mem false [] [m.cells]] st) ?_ ?_
  · cases hgo : m.hasGoal
    · by_cases hgl : 0 < m.goal.length
      · have hgl' : (0 : Int) < m.goal.length := by omega
        have hb : goalB m = 48 := by unfold goalB; rw [hgo]; simp [hgl]
        rw [hb, if_neg (by decide)] at hC
        simp -dsimp [h, hgo, hgl, hC, Model.cells, vVars, vCons, vTerms, za0.rs]
      · have hg0 : m.goal = [] := List.length_eq_zero_iff.1 (by omega)
        have hb : goalB m = 0 := by unfold goalB; rw [hgo, hg0]; rfl
        rw [hb, if_pos rfl] at hC
        simp -dsimp [h, hgo, hg0, hC, Model.cells, vVars, vCons, vTerms, za0.rs]
    · simp -dsimp [h, At, hgo, Model.cells, vVars, vCons, vTerms]
  try clear h
  rintro ⟨sl, hp, bs⟩ ⟨hgo, rfl, h⟩
  simp only [zaa, zab, zad] at h
  replace hG := hG hgo
  refine zac (fun st => manyB m.goal.length = false ∧ At [(1, .ptr 0 1 0 0), (4, V.i (m.vars.length + m.cons.length)), (6, V.i m.vars.length)] [.mem false [] [m.cells]] st) ?_ ?_
  · simp -dsimp [h, Model.cells, vVars, vCons, vTerms]
    refine gcall (zdO m.goal.length) (by simp -dsimp [h]) (by simp -dsimp [h]) ?_
    cases a : manyB m.goal.length
    · simp -dsimp [h, At, a, Model.cells, vVars, vCons, vTerms]
    · rw [a] at hG
      rw [hG, if_pos rfl, if_neg (by decide)] at hC
      simp -dsimp [h, hC, za0.rs]
  try clear h
  rintro ⟨sl, hp, bs⟩ ⟨hmn, rfl, h⟩
  simp only [zaa, zab, zad] at h
  rw [hmn, if_neg (by simp)] at hG
  rw [hG] at hC
  refine zac (At [(4, V.i (m.vars.length + m.cons.length)), (5, V.i (termsR m.goal m.vars.length))] [.mem false [] [m.cells]]) ?_ ?_
  · simp -dsimp [h, Model.cells, vVars, vCons, vTerms]
    refine gcall (zfT m.goal m.vars.length hg) (by simp -dsimp [h, vTerms]) (by simp -dsimp [h, vTerms]) ?_
    simp -dsimp [h, At, Model.cells, vVars, vCons, vTerms]
  try clear h
  rintro ⟨sl, hp, bs⟩ ⟨rfl, h⟩
  simp only [zaa, zab, zad] at h
  by_cases e : termsR m.goal m.vars.length = 0
  · rw [if_pos e] at hC
    simp -dsimp [h, e, hC, za0.rs]
  · rw [if_neg e] at hC
    simp -dsimp [h, e, hC, za0.rs]
end Go.Abs.G

namespace Go.Abs.G
open Go.Proofs
def runR (lo : Int) (n : Nat) : List Int := (List.range n).map fun (i : Nat) => lo + (i : Int)
@[simp] theorem zpl (lo : Int) (n : Nat) : (runR lo n).length = n := by simp [runR]
end Go.Abs.G

namespace Go.Abs.G
open Go.Proofs
@[simp ↓ high] theorem zoQ (s : List Dom) (T : List (List Ce)) : (St1 s T).isTree = true := rfl
@[simp ↓ high] theorem znW (s : List Dom) (T : List (List Ce)) : (St1 s T).trows = 1 := rfl
@[simp ↓ high] theorem znV (s : List Dom) (T : List (List Ce)) : (St1 s T).isMem = false := rfl
@[simp ↓ high] theorem zoP (s : List Dom) (T : List (List Ce)) : (St1 s T).refs = [] := rfl
@[simp ↓ high] theorem zoO (n : Nat) (s : List Dom) (T : List (List Ce)) : limO n (St1 s T) = St1 s T := zmM n s T
@[simp ↓ high] theorem zmN (f : Nat → Nat) (s : List Dom) (ms : List (List Dom)) : O.ren f (St1 s (mT ms)) = St1 s (mT ms) := by
  simp [St1, O.ren, Ce.renR, Ce.renL, Ce.ren, zhp, zmw]
@[simp] theorem zmL (s : List Dom) (ms : List (List Dom)) : (St1 s (mT ms)).clo := ⟨rfl, fun f => zmN f s ms, fun e => by cases e⟩
end Go.Abs.G

namespace Go.Abs.G
open Go.Proofs
structure DOp where
  kind : Int
  ck : Int
  cx : Int
  cv : Int
  n : Int
structure DCut where
  k : Int
  x : Int
  v : Int
def DOp.cells (o : DOp) : List V := [V.i o.kind, V.i o.ck, V.i o.cx, V.i o.cv, V.i o.n]
def DCut.cells (c : DCut) : List V := [V.i c.k, V.i c.x, V.i c.v]
structure SG (s : List Dom) (ms : List (List Dom)) : Prop extends SOk s ms where
  L : ∀ L ∈ ms, L.length ≤ 64 ∧ ∀ d ∈ L, d.ok
theorem zgk (s : List Dom) (k x v : Int) : (cutS s k x v).1 = s ∨ ∃ d, s[x.toNat]? = some d ∧ (cutS s k x v).1 = s.set x.toNat (cutTo k v d d.width) := by
  unfold cutS
  split
  · split
    · next d e => split
                  · exact .inl rfl
                  · exact .inr ⟨d, e, rfl⟩
    · exact .inl rfl
  · exact .inl rfl
theorem ziz (s : List Dom) (k x v : Int) : (cutS s k x v).1.length = s.length := by
  rcases zgk s k x v with e | ⟨d, _, e⟩ <;> rw [e]; simp
theorem zmT {s : List Dom} (k x v : Int) (h : ∀ d ∈ s, d.ok) : ∀ d ∈ (cutS s k x v).1, d.ok := by
  rcases zgk s k x v with e | ⟨d, hd, e⟩ <;> rw [e]
  · exact h
  · intro d' hd'
    rcases List.mem_or_eq_of_mem_set hd' with h' | rfl
    · exact h d' h'
    · exact zdT k v (h d (List.mem_of_getElem? hd)) _
theorem SG.cut {s : List Dom} {ms : List (List Dom)} (h : SG s ms) (k x v : Int) : SG (cutS s k x v).1 ms :=
  ⟨⟨by rw [ziz]; exact h.n, h.k, zmT k x v h.d⟩, h.L⟩
end Go.Abs.G

namespace Go.Abs.G
open Go.Proofs
theorem zlf {d : Dom} (h : d.ok) {k i : Nat} (hk : k < 64) (hi : i < 64) : (d.drop k).has i = (d.has i && !decide (i = k)) := by
  unfold Dom.drop Dom.has
  by_cases h1 : k < 32
  · rw [if_pos h1]
    by_cases h2 : i < 32
    · simp only [h2, if_true]; exact zjD h.a h1 i
    · simp only [h2, if_false]
      have : i ≠ k := by omega
      simp [this]
  · rw [if_neg h1]
    by_cases h2 : i < 32
    · simp only [h2, if_true]
      have : i ≠ k := by omega
      simp [this]
    · simp only [h2, if_false]
      rw [zjD h.b (by omega)]
      have : (i - 32 = k - 32) ↔ i = k := by omega
      simp [this]
theorem zjJ (k v : Int) {d : Dom} (h : d.ok) : ∀ n, n ≤ 64 → ∀ i, i < 64 → (cutTo k v d n).has i = (d.has i && !(decide (i < n) && goesB k v (d.from' + i))) := by
  intro n
  induction n with
  | zero => intro _ i _; simp [cutTo]
  | succ n ih =>
    intro hn i hi
    have ih := ih (by omega) i hi
    unfold cutTo
    have hin : i < n + 1 ↔ (i < n ∨ i = n) := by omega
    split
    · next hg =>
      rw [zlf (zdT k v h n) (by omega) hi, ih]
      by_cases hi2 : i = n
      · subst hi2; simp [hg]
      · have : decide (i < n + 1) = decide (i < n) := by simp; omega
        simp [hi2, this]
    · next hg =>
      rw [ih]
      by_cases hi2 : i = n
      · subst hi2
        have : goesB k v (d.from' + i) = false := by simpa using hg
        simp [this]
      · have : decide (i < n + 1) = decide (i < n) := by simp; omega
        rw [this]
def NE (s : List Dom) : Prop := ∀ d ∈ s, d.none = false
theorem NE.cut {s : List Dom} (h : NE s) (k x v : Int) : NE (cutS s k x v).1 := by
  unfold cutS
  split
  · split
    · next d e =>
      split
      · exact h
      · next hn =>
        intro d' hd'
        rcases List.mem_or_eq_of_mem_set hd' with h' | rfl
        · exact h d' h'
        · simpa using hn
    · exact h
  · exact h
theorem zmO {d : Dom} (h : d.ok) {k i : Nat} (hk : k < 64) (hi : i < 64) : (d.add k).has i = (d.has i || decide (i = k)) := by
  unfold Dom.add Dom.has
  by_cases h1 : k < 32
  · rw [if_pos h1]
    by_cases h2 : i < 32
    · simp only [h2, if_true]; exact ziJ h.a h1 i
    · simp only [h2, if_false]
      have : i ≠ k := by omega
      simp [this]
  · rw [if_neg h1]
    by_cases h2 : i < 32
    · simp only [h2, if_true]
      have : i ≠ k := by omega
      simp [this]
    · simp only [h2, if_false]
      rw [ziJ h.b (by omega)]
      have : (i - 32 = k - 32) ↔ i = k := by omega
      simp [this]
theorem zgn {d : Dom} (h : d.ok) : ∀ n, n ≤ 64 → ∀ i, i < 64 → (fillTo d n).has i = (d.has i || decide (i < n)) := by
  intro n
  induction n with
  | zero => intro _ i _; simp [fillTo]
  | succ n ih =>
    intro hn i hi
    have ih := ih (by omega) i hi
    unfold fillTo
    rw [zmO (zfv h n) (by omega) hi, ih]
    by_cases h1 : i = n
    · subst h1; simp
    · have : decide (i < n + 1) = decide (i < n) := by simp; omega
      simp [h1, this]
theorem zem (v : Var) : (domOf v).width = (v.hi - v.lo + 1).toNat := ze4 _ _
theorem zjL {v : Var} (h : VarOk v) {i : Nat} (hi : i < (domOf v).width) : (domOf v).has i = true := by
  have hok := zjK h
  have hw := hok.w
  rw [zem] at hi
  have hi' : i < (dom0 v).width := hi
  unfold domOf
  rw [zgn hok _ hw i (by omega)]
  simp [hi']
theorem zie {d : Dom} {i : Nat} (h : d.has i = true) : d.none = false := by
  unfold Dom.none
  unfold Dom.has at h
  split at h
  · have : d.a ≠ 0 := fun e => by rw [e] at h; simp at h
    simp [this]
  · have : d.b ≠ 0 := fun e => by rw [e] at h; simp at h
    simp [this]
theorem znj {d d' : Dom} (hf : d'.from' = d.from') (hw : d'.width = d.width) (hh : ∀ i, i < d.width → d'.has i = d.has i) : d'.vals d'.width = d.vals d.width := by
  unfold Dom.vals
  rw [hw, hf]
  congr 1
  refine List.filter_congr fun i hi => ?_
  exact hh i (List.mem_range.1 hi)
end Go.Abs.G

namespace Go.Abs.G
structure DG (x : Dom) : Prop where
  ok : x.ok
  full : ∀ i, i < 64 → x.width ≤ i → x.has i = false
  ne : x.none = false
def refD (s : List Dom) : List (List Int) := s.map fun x => x.vals x.width
theorem zlB (s : List Dom) : (refD s).length = s.length := by simp [refD]
theorem zmv (s : List Dom) (x : Int) : isR (refD s) x = isB s x := by simp [isR, isB, zlB]
theorem zng (s : List Dom) (x : Int) : rowR (refD s) x = valsB s x := by
  unfold rowR valsB
  rw [zmv]
  by_cases h : isB s x = true
  · rw [if_pos h, if_pos h]; simp [refD, List.getElem?_map]
  · rw [if_neg h, if_neg h]
theorem zgZ {x : Dom} {v : Int} : v ∈ x.vals x.width ↔ ∃ i : Nat, i < x.width ∧ x.has i = true ∧ v = x.from' + i := by
  simp only [Dom.vals, List.mem_map, List.mem_filter, List.mem_range]
  constructor
  · rintro ⟨i, ⟨a, b⟩, c⟩; exact ⟨i, a, b, c.symm⟩
  · rintro ⟨i, a, b, c⟩; exact ⟨i, ⟨a, b⟩, c.symm⟩
end Go.Abs.G

namespace Go.Abs.G
theorem zg3 {d : Dom} (h : d.none = true) (i : Nat) : d.has i = false := by
  simp [Dom.none] at h
  unfold Dom.has
  rw [h.1, h.2]
  split <;> simp
theorem zmt {d e : Dom} (hd : d.ok) (he : e.ok) (h : ∀ i, i < 64 → d.has i = e.has i) : d.a = e.a ∧ d.b = e.b := by
  constructor
  · refine Nat.eq_of_testBit_eq fun i => ?_
    by_cases hi : i < 32
    · have := h i (by omega); simpa [Dom.has, hi] using this
    · rw [Nat.testBit_lt_two_pow (Nat.lt_of_lt_of_le (show d.a < 2 ^ 32 from hd.a) (Nat.pow_le_pow_right (by omega) (by omega : 32 ≤ i))), Nat.testBit_lt_two_pow (Nat.lt_of_lt_of_le (show e.a < 2 ^ 32 from he.a) (Nat.pow_le_pow_right (by omega) (by omega : 32 ≤ i)))]
  · refine Nat.eq_of_testBit_eq fun i => ?_
    by_cases hi : i < 32
    · have := h (32 + i) (by omega); have h2 : ¬ 32 + i < 32 := by omega
      simpa [Dom.has, h2] using this
    · rw [Nat.testBit_lt_two_pow (Nat.lt_of_lt_of_le (show d.b < 2 ^ 32 from hd.b) (Nat.pow_le_pow_right (by omega) (by omega : 32 ≤ i))), Nat.testBit_lt_two_pow (Nat.lt_of_lt_of_le (show e.b < 2 ^ 32 from he.b) (Nat.pow_le_pow_right (by omega) (by omega : 32 ≤ i)))]
section
variable {d : Dom} (h : DG d) (k v : Int)
include h
theorem zfs (i : Nat) (hi : i < 64) : (cutTo k v d d.width).has i = (d.has i && !(decide (i < d.width) && goesB k v (d.from' + i))) := zjJ k v h.ok d.width h.ok.w i hi
theorem zgG : (cutTo k v d d.width).vals (cutTo k v d d.width).width = leftR k v (d.vals d.width) := by
  have hw := h.ok.w
  rw [zdz]
  unfold Dom.vals leftR
  rw [List.filter_map, List.filter_filter, zeV]
  congr 1
  refine List.filter_congr fun i hi => ?_
  have hi : i < d.width := by simpa using hi
  rw [zfs h k v i (by omega)]
  simp [hi, Function.comp, Bool.and_comm]
theorem ziA : (cutTo k v d d.width).none = decide (leftR k v (d.vals d.width) = []) := by
  have hw := h.ok.w
  have hok := zdT k v h.ok d.width
  rw [← zgG h k v, Bool.eq_iff_iff, decide_eq_true_eq]
  constructor
  · intro hn
    refine List.eq_nil_iff_forall_not_mem.2 fun u hu => ?_
    obtain ⟨i, a, b, c⟩ := zgZ.1 hu
    rw [zg3 hn] at b; cases b
  · intro he
    have : (cutTo k v d d.width).a = 0 ∧ (cutTo k v d d.width).b = 0 := zmt (e := ⟨d.from', d.width, 0, 0⟩) hok ⟨h.ok.f, h.ok.w, by simp, by simp⟩ fun i hi => by
      have hz : (⟨d.from', d.width, 0, 0⟩ : Dom).has i = false := zg3 rfl i
      rw [hz]
      by_cases hiw : i < d.width
      · cases hb : (cutTo k v d d.width).has i
        · rfl
        · have := zgZ.2 ⟨i, by rw [zdz]; exact hiw, hb, rfl⟩
          rw [he] at this; cases this
      · rw [zfs h k v i hi, h.full i hi (by omega)]; rfl
    simp [Dom.none, this]
theorem zk9 : (!(cutTo k v d d.width).same d) = decide ((leftR k v (d.vals d.width)).length < (d.vals d.width).length) := by
  have hw := h.ok.w
  have hok := zdT k v h.ok d.width
  cases hs : (cutTo k v d d.width).same d
  · symm
    simp only [Bool.not_false, decide_eq_true_eq]
    refine Nat.lt_of_le_of_ne (zjZ k v _) fun e => ?_
    have hall : leftR k v (d.vals d.width) = d.vals d.width := List.filter_sublist.eq_of_length e
    have := zmt hok h.ok fun i hi => by
      by_cases hiw : i < d.width
      · rw [zfs h k v i hi]
        cases hb : d.has i
        · rfl
        · have hm : d.from' + (i : Int) ∈ d.vals d.width := zgZ.2 ⟨i, hiw, hb, rfl⟩
          rw [← hall] at hm
          have := (List.mem_filter.1 hm).2
          simp at this
          simp [this]
      · rw [zfs h k v i hi, h.full i hi (by omega)]; rfl
    simp [Dom.same, this] at hs
  · symm
    simp only [Bool.not_true, decide_eq_false_iff_not]
    simp [Dom.same] at hs
    have : leftR k v (d.vals d.width) = d.vals d.width := by
      rw [← zgG h k v]
      refine znj (zeV k v d d.width) (zdz k v d d.width) fun i _ => ?_
      unfold Dom.has; rw [hs.1, hs.2]
    rw [this]; omega
theorem znY (hn : leftR k v (d.vals d.width) ≠ []) : DG (cutTo k v d d.width) := by
  refine ⟨zdT k v h.ok d.width, fun i hi hw => ?_, ?_⟩
  · rw [zdz] at hw
    rw [zfs h k v i hi, h.full i hi hw]; rfl
  · rw [ziA h k v]; simpa using hn
end
theorem zmU {s : List Dom} (hs : ∀ d ∈ s, DG d) (k x v : Int) : cutR (refD s) k x v = (refD (cutS s k x v).1, (cutS s k x v).2) ∧ ∀ d ∈ (cutS s k x v).1, DG d := by
  unfold cutR cutS
  rw [zmv]
  by_cases hb : isB s x = true
  · have hb2 := hb
    simp [isB] at hb2
    have hlt : x.toNat < s.length := by omega
    obtain ⟨d, hd⟩ : ∃ d, s[x.toNat]? = some d := ⟨_, List.getElem?_eq_getElem hlt⟩
    have hdg := hs d (List.mem_of_getElem? hd)
    have hrow : rowR (refD s) x = d.vals d.width := by
      rw [zng]; unfold valsB; rw [if_pos hb, hd]; rfl
    rw [hrow, hb, if_neg (by simp), if_pos rfl, hd]
    simp only [ziA hdg k v, zk9 hdg k v, decide_eq_true_eq]
    by_cases hn : leftR k v (d.vals d.width) = []
    · rw [if_pos hn, if_pos hn]
      exact ⟨rfl, hs⟩
    · rw [if_neg hn, if_neg hn]
      refine ⟨?_, fun e he => ?_⟩
      · simp only [refD, List.map_set, zgG hdg k v]
      · rcases List.mem_or_eq_of_mem_set he with h | h
        · exact hs e h
        · rw [h]; exact znY hdg k v hn
  · have hf : isB s x = false := by simpa using hb
    rw [hf]
    simp
    exact hs
end Go.Abs.G

namespace Go.Abs.G
theorem zla {v : Var} (h : VarOk v) : DG (domOf v) := by
  have hok := zjK h
  refine ⟨zfv hok _, fun i hi hw => ?_, zie (zjL h (i := 0) ?_)⟩
  · rw [zem] at hw
    unfold domOf
    rw [zgn hok (dom0 v).width hok.w i hi]
    have hz : (dom0 v).has i = false := zg3 rfl i
    have : ¬ i < (dom0 v).width := by simp only [dom0]; omega
    rw [hz]; simp [this]
  · rw [zem]
    obtain ⟨a, b, c, e⟩ := h
    omega
theorem zmX (m : Model) : ∀ d ∈ domsOf m, DG d := by
  unfold domsOf
  by_cases hz : (checkB m).2 = 0
  · have hR : Right m := zdi.1 (by simp [rightB, hz])
    rw [if_pos hz]
    intro d hd
    simp only [List.mem_map] at hd
    obtain ⟨v, hv, rfl⟩ := hd
    obtain ⟨i, hi⟩ := List.getElem?_of_mem hv
    exact zla (VarOk.of (hR.var i v hi))
  · rw [if_neg hz]; intro d hd; cases hd
theorem zlb (m : Model) : (domsOf m).length ≤ 64 := by
  unfold domsOf
  by_cases hz : (checkB m).2 = 0
  · have hR : Right m := zdi.1 (by simp [rightB, hz])
    have := hR.nv
    rw [if_pos hz, List.length_map]; omega
  · rw [if_neg hz]; simp
structure Two (s : List Dom) (ms : List (List Dom)) : Prop where
  n : s.length ≤ 64
  k : ms.length ≤ 1000000
  d : ∀ d ∈ s, DG d
  m : ∀ L ∈ ms, L.length ≤ 64 ∧ ∀ d ∈ L, DG d
theorem Two.new (m : Model) : Two (domsOf m) [] := ⟨zlb m, by simp, zmX m, fun L hL => by cases hL⟩
theorem Two.cut {s : List Dom} {ms : List (List Dom)} (h : Two s ms) (k x v : Int) : Two (cutS s k x v).1 ms := ⟨by rw [ziz]; exact h.n, h.k, (zmU h.d k x v).2, h.m⟩
theorem Two.mark {s : List Dom} {ms : List (List Dom)} (h : Two s ms) (hk : ms.length + 1 ≤ 1000000) : Two s (ms ++ [s]) := ⟨h.n, by simpa using hk, h.d, fun L hL => by
  rcases List.mem_append.1 hL with hL | hL
  · exact h.m L hL
  · rw [List.mem_singleton.1 hL]; exact ⟨h.n, h.d⟩⟩
theorem Two.back {s : List Dom} {ms : List (List Dom)} (h : Two s ms) {j : Nat} (hj : j < ms.length) : Two ms[j] (ms.take j) := ⟨(h.m _ (List.getElem_mem hj)).1, Nat.le_trans (by simp; omega) h.k, (h.m _ (List.getElem_mem hj)).2, fun L hL => h.m L (List.mem_of_mem_take hL)⟩
end Go.Abs.G

namespace Go.Abs.G
open Go.Proofs
def ST (s : List Dom) (ms : List (List Dom)) : O := St1 s (mT ms)
def RT (s : List Dom) (ms : List (List Dom)) : O := RR (refD s) (ms.map refD)
theorem zmK (s : List Dom) (ms : List (List Dom)) : ST s ms ≠ .res := fun e => by cases e
theorem zmF (s : List Dom) (ms : List (List Dom)) : RT s ms ≠ .res := fun e => by cases e
theorem zjr (s : List Dom) (ms : List (List Dom)) : (ST s ms).clo := zmL s ms
theorem zjp (s : List Dom) (ms : List (List Dom)) : (RT s ms).clo := zlQ _ _
section
variable (s : List Dom) (ms : List (List Dom))
@[simp high] theorem zoL : (ST s ms).isMem = false := rfl
@[simp high] theorem zoD : (RT s ms).isMem = false := rfl
@[simp high] theorem znU : (ST s ms).isTree = true := rfl
@[simp high] theorem znF : (RT s ms).isTree = true := rfl
@[simp high] theorem zoN : (ST s ms).trows = 1 := rfl
@[simp high] theorem zoF : (RT s ms).trows = 1 := rfl
@[simp high] theorem zpJ : (ST s ms).refs = [] := rfl
@[simp high] theorem zpz : (RT s ms).refs = [] := rfl
@[simp high] theorem zqr : (ST s ms).hasTot 1 = True := by simp [ST, St1, O.hasTot]
@[simp high] theorem zqf : (RT s ms).hasTot 1 = True := by simp [RT, RR, R1, O.hasTot]
@[simp] theorem zoM : (ST s ms = .res) = False := eq_false (zmK s ms)
@[simp] theorem zoE : (RT s ms = .res) = False := eq_false (zmF s ms)
@[simp] theorem zqo : (ST s ms).clo = True := eq_true (zjr s ms)
@[simp] theorem zqc : (RT s ms).clo = True := eq_true (zjp s ms)
@[simp high] theorem zqq (f : Nat → Nat) : O.ren f (ST s ms) = ST s ms := (zjr s ms).ren f
@[simp high] theorem zqe (f : Nat → Nat) : O.ren f (RT s ms) = RT s ms := (zjp s ms).ren f
@[simp high] theorem zqp (n : Nat) : limO n (ST s ms) = ST s ms := by simp [ST]
@[simp high] theorem zqd (n : Nat) : limO n (RT s ms) = RT s ms := by simp [RT, RR, R1, limO, O.refs]
end
@[simp high] theorem zop (f : Nat → Nat) (l : List Int) : V.ren f (vInts l) = vInts l := by
  simp only [vInts, V.ren]
section
variable {s : List Dom} {ms : List (List Dom)} (h : Two s ms)
include h
end
end Go.Abs.G

namespace Go.Abs.G
open Go.Proofs
end Go.Abs.G

namespace Go.Abs.G
open Go.Proofs
end Go.Abs.G

namespace Go.Abs.G
open Go.Proofs
abbrev RK := List (List (List V)) × List Int
structure RmS where
  i : RK
  t : RK
  v : RK
  l : RK
  c : RK
def rmRow (ni nt nv nl nc : Nat) : List V := [.own 1 1 0 ni ni, .own 2 1 0 ni ni, nilS, nilS, .own 3 1 0 nt nt, .own 4 1 0 nt nt, .own 5 1 0 nv nv, .own 6 1 0 nv nv, nilS, nilS, nilS, nilS, nilS, nilS, nilS, nilS, .own 7 1 0 nl nl, .own 8 1 0 nl nl, .own 9 1 0 nc nc, .own 10 1 0 nc nc, nilS, nilS, nilS, nilS, nilS, nilS, nilS, nilS]
def Rm (s : RmS) : Heap := [.mem false [1, 2, 3, 4, 5, 6, 7, 8, 9, 10] [rmRow s.i.1.length s.t.1.length s.v.1.length s.l.1.length s.c.1.length],
  .mem false [] (s.i.1.map fun f => [.view 1 f]), .mem false [] (ri s.i.2), .mem false [] (s.t.1.map fun f => [.view 2 f]), .mem false [] (ri s.t.2), .mem false [] (s.v.1.map fun f => [.view 3 f]), .mem false [] (ri s.v.2), .mem false [] (s.l.1.map fun f => [.view 1 f]), .mem false [] (ri s.l.2), .mem false [] (s.c.1.map fun f => [.view 10 f]), .mem false [] (ri s.c.2)]
def RmS.addInts (s : RmS) (full : List (List V)) (n : Int) : RmS := { s with i := (s.i.1 ++ [full], s.i.2 ++ [n]) }
def RmS.addTerms (s : RmS) (full : List (List V)) (n : Int) : RmS := { s with t := (s.t.1 ++ [full], s.t.2 ++ [n]) }
def RmS.addVars (s : RmS) (full : List (List V)) (n : Int) : RmS := { s with v := (s.v.1 ++ [full], s.v.2 ++ [n]) }
def RmS.addLists (s : RmS) (full : List (List V)) (n : Int) : RmS := { s with l := (s.l.1 ++ [full], s.l.2 ++ [n]) }
def RmS.addCons (s : RmS) (full : List (List V)) (n : Int) : RmS := { s with c := (s.c.1 ++ [full], s.c.2 ++ [n]) }
def lotI (i : Nat) : Int := if i % 2 = 0 then -7701 else -7702
def mkInts (i : Nat) : List V := [V.i (lotI i)]
def mkTerms (i : Nat) : List V := [V.i (lotI i), V.i 0]
def mkVars (i : Nat) : List V := [.str ⟨#[]⟩, V.i (lotI i), V.i 0]
def mkLists (i : Nat) : List V := [vInts [(lotI i)]]
def mkCons (i : Nat) : List V := [V.i 0, V.i 0, nilS, V.i 0, V.i 0, V.i (lotI i), V.i 0, nilS, nilS, nilS]
def marks (f : Nat → List V) (n : Nat) : List (List V) := (List.range n).map f
theorem zdP (f : Nat → List V) (n : Nat) : marks f (n + 1) = marks f n ++ [f n] := by simp [marks, List.range_succ]
theorem zc1 (f : Nat → List V) (n : Nat) : (marks f n).length = n := by simp [marks]
structure RGood (f : Nat → List V) (k : RK) : Prop where
  n : k.2.length = k.1.length
  m : k.1.length ≤ 1000000000000
  g : ∀ (i : Nat) (full : List (List V)), k.1[i]? = some full → ∃ p : Nat, k.2[i]? = some (p : Int) ∧ p ≤ full.length ∧ full.length ≤ 10000000 ∧ ∀ j, p ≤ j → (h : j < full.length) → full[j] = f (j - p)
theorem RGood.nil (f : Nat → List V) : RGood f ([], []) := ⟨rfl, by simp, by simp⟩
theorem RGood.add {f : Nat → List V} {k : RK} (h : RGood f k) {rows : List (List V)} {room : Nat} (hr : rows.length + room ≤ 10000000) (hk : k.1.length + 1 ≤ 1000000000000) : RGood f (k.1 ++ [rows ++ marks f room], k.2 ++ [(rows.length : Int)]) := by
  refine ⟨by simp [h.n], by simpa using hk, fun i full hi => ?_⟩
  simp only at hi ⊢
  by_cases hik : i < k.1.length
  · rw [List.getElem?_append_left hik] at hi
    obtain ⟨p, h1, h2⟩ := h.g i full hi
    exact ⟨p, by rw [List.getElem?_append_left (by rw [h.n]; exact hik)]; exact h1, h2⟩
  · have e : i = k.1.length := by
      have := (List.getElem?_eq_some_iff.1 hi).1
      simp at this; omega
    subst e
    rw [List.getElem?_append_right (Nat.le_refl _), Nat.sub_self] at hi
    obtain rfl : rows ++ marks f room = full := by simpa using hi
    refine ⟨rows.length, ?_, by simp, by simp [zc1]; omega, fun j h1 h2 => ?_⟩
    · rw [← h.n, List.getElem?_append_right (Nat.le_refl _), Nat.sub_self]; rfl
    · rw [List.getElem_append_right h1]
      simp [marks]
structure RmOk (s : RmS) : Prop where
  i : RGood mkInts s.i
  t : RGood mkTerms s.t
  v : RGood mkVars s.v
  l : RGood mkLists s.l
  c : RGood mkCons s.c
theorem zdn (n : Nat) (hn : n ≤ 1000000000) : Pf Tryz.prog zaZ.id [V.i n] (V.i (lotI n)) := by
  refine DC.of zaZ.ok (by simp) ?_
  unfold zaZ.ir
  have hm : (n : Int).tmod 2 = (n : Int) % 2 := Int.tmod_eq_emod_of_nonneg (by omega)
  have hw : IntKind.i64.wrap ((n : Int) % 2) = (n : Int) % 2 := wrap64 (by omega) (by omega)
  unfold lotI
  by_cases h : n % 2 = 0
  · have h' : (n : Int) % 2 = 0 := by omega
    rw [h'] at hw hm
    simp -dsimp [h, h', hm, hw, zaZ.rs]
  · have h' : (n : Int) % 2 = 1 := by omega
    rw [h'] at hw hm
    simp -dsimp [h, h', hm, hw, zaZ.rs]
theorem zhw (s : RmS) (rows : List (List V)) (room : Nat) (h1 : rows.length ≤ 1000000) (h2 : room ≤ 1000) (h3 : s.i.1.length ≤ 1000000000000) (h4 : s.i.2.length = s.i.1.length) :
    DC Tryz.prog zaB.id [.ptr 0 1 0 0, .view 1 rows, V.i room] (Rm s) (fun r H => r = .view 1 rows ∧ H = Rm (s.addInts (rows ++ marks mkInts room) rows.length)) := by
  refine DC.trim (Q := fun r H => r = .view 1 rows ∧ ∃ E, H = Rm (s.addInts (rows ++ marks mkInts room) rows.length) ++ E) ?_ ?_
  rotate_left
  · rintro r H ⟨rfl, E, rfl⟩
    exact ⟨11, by simp [Rm], by simp [V.ids], rfl, by simp [Rm, limO, O.refs]⟩
  refine DC.of zaB.ok (by simp) ?_
  unfold zaB.ir
  have hRm : ∀ t : RmS, Rm t = Rm t := fun _ => rfl
  obtain ⟨R, hR⟩ : ∃ R, R = O.mem false [1, 2, 3, 4, 5, 6, 7, 8, 9, 10] [rmRow s.i.1.length s.t.1.length s.v.1.length s.l.1.length s.c.1.length] := ⟨_, rfl⟩
  obtain ⟨x1, hx1⟩ : ∃ x : O, x = (O.mem false [] (s.i.1.map fun f => [.view 1 f])) := ⟨_, rfl⟩
  have rx1 : x1.refs = [] := by rw [hx1]; rfl
  obtain ⟨x2, hx2⟩ : ∃ x : O, x = (O.mem false [] (ri s.i.2)) := ⟨_, rfl⟩
  have rx2 : x2.refs = [] := by rw [hx2]; rfl
  obtain ⟨x3, hx3⟩ : ∃ x : O, x = (O.mem false [] (s.t.1.map fun f => [.view 2 f])) := ⟨_, rfl⟩
  have rx3 : x3.refs = [] := by rw [hx3]; rfl
  obtain ⟨x4, hx4⟩ : ∃ x : O, x = (O.mem false [] (ri s.t.2)) := ⟨_, rfl⟩
  have rx4 : x4.refs = [] := by rw [hx4]; rfl
  obtain ⟨x5, hx5⟩ : ∃ x : O, x = (O.mem false [] (s.v.1.map fun f => [.view 3 f])) := ⟨_, rfl⟩
  have rx5 : x5.refs = [] := by rw [hx5]; rfl
  obtain ⟨x6, hx6⟩ : ∃ x : O, x = (O.mem false [] (ri s.v.2)) := ⟨_, rfl⟩
  have rx6 : x6.refs = [] := by rw [hx6]; rfl
  obtain ⟨x7, hx7⟩ : ∃ x : O, x = (O.mem false [] (s.l.1.map fun f => [.view 1 f])) := ⟨_, rfl⟩
  have rx7 : x7.refs = [] := by rw [hx7]; rfl
  obtain ⟨x8, hx8⟩ : ∃ x : O, x = (O.mem false [] (ri s.l.2)) := ⟨_, rfl⟩
  have rx8 : x8.refs = [] := by rw [hx8]; rfl
  obtain ⟨x9, hx9⟩ : ∃ x : O, x = (O.mem false [] (s.c.1.map fun f => [.view 10 f])) := ⟨_, rfl⟩
  have rx9 : x9.refs = [] := by rw [hx9]; rfl
  obtain ⟨x10, hx10⟩ : ∃ x : O, x = (O.mem false [] (ri s.c.2)) := ⟨_, rfl⟩
  have rx10 : x10.refs = [] := by rw [hx10]; rfl
  have hH : Rm s = [R, x1, x2, x3, x4, x5, x6, x7, x8, x9, x10] := by rw [hR, hx1, hx2, hx3, hx4, hx5, hx6, hx7, hx8, hx9, hx10]; rfl
  have hrl : (List.take rows.length (rows ++ marks mkInts room)) = rows := by simp
  rw [hH]
  obtain ⟨A, hA⟩ : ∃ A, A = V.view 1 rows := ⟨_, rfl⟩
  have hAi : A.ids = [] := by rw [hA]; rfl
  rw [← hA]
  have hRr : ∀ i ∈ R.refs, i < 11 := by rw [hR]; simp [O.refs]
  refine zac (At [(0, .ptr 0 1 0 0), (1, A), (2, V.i room)] [R, x1, x2, x3, x4, x5, x6, x7, x8, x9, x10]) (by simp -dsimp [At]) ?_
  try clear h
  rintro ⟨sl, hp, bs⟩ ⟨rfl, h⟩
  simp only [zaa, zab, zad] at h
  refine zac (At [(0, .ptr 0 1 0 0), (1, A), (2, V.i room), (7, .nul 1)] [R, x1, x2, x3, x4, x5, x6, x7, x8, x9, x10, .res]) (by simp -dsimp [h, At]) ?_
  try clear h
  rintro ⟨sl, hp, bs⟩ ⟨rfl, h⟩
  simp only [zaa, zab, zad] at h
  have hb0 : (rows.length : Int) * 8 ≤ 140737488355328 := by omega
  refine zac (At [(0, .ptr 0 1 0 0), (1, A), (2, V.i room), (7, .own 13 1 0 rows.length rows.length)] [R, x1, x2, x3, x4, x5, x6, x7, x8, x9, x10, .res, .res, .mem false [] rows]) ?_ ?_
  · simp -dsimp [h]
    refine ⟨_, Weak.ownnul 7 1 (es' := 1) (by simp -dsimp [h]), ?_⟩
    simp -dsimp [h, hA, hb0, At]
  try clear h
  rintro ⟨sl, hp, bs⟩ ⟨rfl, h⟩
  simp only [zaa, zab, zad] at h
  refine zac (At [(0, .ptr 0 1 0 0), (1, A), (7, .own 13 1 0 (rows.length + room) (rows.length + room))] [R, x1, x2, x3, x4, x5, x6, x7, x8, x9, x10, .res, .res, .mem false [] (rows ++ marks mkInts room)]) ?_ ?_
  · refine zac (At [(0, .ptr 0 1 0 0), (1, A), (2, V.i room), (7, .own 13 1 0 rows.length rows.length), (8, V.i 0)] [R, x1, x2, x3, x4, x5, x6, x7, x8, x9, x10, .res, .res, .mem false [] rows]) (by simp -dsimp [h, At]) ?_
    try clear h
    rintro ⟨sl, hp, bs⟩ ⟨rfl, h⟩
    simp only [zaa, zab, zad] at h
    refine zag (zbY 14 (by simp) room (fun i st => ∃ C, C = rows ++ marks mkInts i ∧ At [(0, .ptr 0 1 0 0), (1, A), (2, V.i room), (7, .own 13 1 0 (rows.length + i) (rows.length + i)), (8, V.i i)] [R, x1, x2, x3, x4, x5, x6, x7, x8, x9, x10, .res, .res, .mem false [] C] st) ⟨rows, by simp [marks], rfl, by simpa using h⟩ ?_)
    clear h
    rintro i ⟨sl, hp, bs⟩ hi ⟨C, hC, rfl, h⟩
    simp only [zaa, zab] at h
    unfold zaB.b0
    have hCl : C.length = rows.length + i := by rw [hC]; simp [zc1]
    by_cases hil : i < room
    · have hil' : (i : Int) < room := by omega
      have hw : IntKind.i64.wrap ((i : Int) + 1) = ((i + 1 : Nat) : Int) := by rw [wrap64] <;> omega
      have hl := zdn i (by omega)
      have hsu := zdP mkInts i
      have hbb : ((rows.length + i : Nat) : Int) * 8 + 8 ≤ 140737488355328 := by omega
      have hb2 : ((rows.length : Int) + (i : Int) + 1) * 8 ≤ 140737488355328 := by omega
      simp -dsimp [h, hil, hil']
      refine gcall (hl) (by simp -dsimp [h, hCl, hb2, At, hw, hil, hAi, rx1, rx2, rx3, rx4, rx5, rx6, rx7, rx8, rx9, rx10]) (by simp -dsimp [h, hCl, hb2, At, hw, hil, hAi, rx1, rx2, rx3, rx4, rx5, rx6, rx7, rx8, rx9, rx10]) ?_
      simp -dsimp [h, hCl, hb2, At, hw, hil, hAi, rx1, rx2, rx3, rx4, rx5, rx6, rx7, rx8, rx9, rx10]
      exact ⟨⟨fun x hx h14 => absurd (hRr x hx) (by omega), by rw [hC, hsu, List.append_assoc]; rfl⟩, by omega⟩
    · have hil' : ¬ (i : Int) < room := by omega
      have e : i = room := by omega
      subst e
      simp -dsimp [h, hil', At, hC]
  try clear h
  rintro ⟨sl, hp, bs⟩ ⟨rfl, h⟩
  simp only [zaa, zab, zad] at h
  obtain ⟨full, hfull⟩ : ∃ full, full = rows ++ marks mkInts room := ⟨_, rfl⟩
  rw [← hfull] at hrl ⊢
  have hfl : full.length = rows.length + room := by rw [hfull]; simp [zc1]
  have ht : List.take (rows.length + room) full = full := List.take_of_length_le (by omega)
  have hb3 : ((s.i.1.length : Int) + 1) * 24 ≤ 140737488355328 := by omega
  have hb4 : ((s.i.1.length : Int) + 1) * 8 ≤ 140737488355328 := by omega
  have rl : (ri s.i.2).length = s.i.1.length := by rw [zeN, h4]
  have hle : rows.length ≤ rows.length + room := Nat.le_add_right _ _
  have hli : (rows.length : Int) ≤ rows.length + room := by omega
  simp -dsimp [h, hfl, ht, hR, rmRow, hx1, hx2, hA, hb3, hb4, rl, hrl, V.isView, V.rowsV, hle, hli, zaB.rs]
  refine ⟨[O.res, .res, .mem true [] full, .res, .res, .res, .res], ?_⟩
  simp [Rm, RmS.addInts, rmRow, List.map_append, ri, hx1, hx2, hx3, hx4, hx5, hx6, hx7, hx8, hx9, hx10]
theorem zgU (s : RmS) (rows : List (List V)) (room : Nat) (h1 : rows.length ≤ 1000000) (h2 : room ≤ 1000) (h3 : s.t.1.length ≤ 1000000000000) (h4 : s.t.2.length = s.t.1.length) :
    DC Tryz.prog zaN.id [.ptr 0 1 0 0, .view 2 rows, V.i room] (Rm s) (fun r H => r = .view 2 rows ∧ H = Rm (s.addTerms (rows ++ marks mkTerms room) rows.length)) := by
  refine DC.trim (Q := fun r H => r = .view 2 rows ∧ ∃ E, H = Rm (s.addTerms (rows ++ marks mkTerms room) rows.length) ++ E) ?_ ?_
  rotate_left
  · rintro r H ⟨rfl, E, rfl⟩
    exact ⟨11, by simp [Rm], by simp [V.ids], rfl, by simp [Rm, limO, O.refs]⟩
  refine DC.of zaN.ok (by simp) ?_
  unfold zaN.ir
  have hRm : ∀ t : RmS, Rm t = Rm t := fun _ => rfl
  obtain ⟨R, hR⟩ : ∃ R, R = O.mem false [1, 2, 3, 4, 5, 6, 7, 8, 9, 10] [rmRow s.i.1.length s.t.1.length s.v.1.length s.l.1.length s.c.1.length] := ⟨_, rfl⟩
  obtain ⟨x1, hx1⟩ : ∃ x : O, x = (O.mem false [] (s.i.1.map fun f => [.view 1 f])) := ⟨_, rfl⟩
  have rx1 : x1.refs = [] := by rw [hx1]; rfl
  obtain ⟨x2, hx2⟩ : ∃ x : O, x = (O.mem false [] (ri s.i.2)) := ⟨_, rfl⟩
  have rx2 : x2.refs = [] := by rw [hx2]; rfl
  obtain ⟨x3, hx3⟩ : ∃ x : O, x = (O.mem false [] (s.t.1.map fun f => [.view 2 f])) := ⟨_, rfl⟩
  have rx3 : x3.refs = [] := by rw [hx3]; rfl
  obtain ⟨x4, hx4⟩ : ∃ x : O, x = (O.mem false [] (ri s.t.2)) := ⟨_, rfl⟩
  have rx4 : x4.refs = [] := by rw [hx4]; rfl
  obtain ⟨x5, hx5⟩ : ∃ x : O, x = (O.mem false [] (s.v.1.map fun f => [.view 3 f])) := ⟨_, rfl⟩
  have rx5 : x5.refs = [] := by rw [hx5]; rfl
  obtain ⟨x6, hx6⟩ : ∃ x : O, x = (O.mem false [] (ri s.v.2)) := ⟨_, rfl⟩
  have rx6 : x6.refs = [] := by rw [hx6]; rfl
  obtain ⟨x7, hx7⟩ : ∃ x : O, x = (O.mem false [] (s.l.1.map fun f => [.view 1 f])) := ⟨_, rfl⟩
  have rx7 : x7.refs = [] := by rw [hx7]; rfl
  obtain ⟨x8, hx8⟩ : ∃ x : O, x = (O.mem false [] (ri s.l.2)) := ⟨_, rfl⟩
  have rx8 : x8.refs = [] := by rw [hx8]; rfl
  obtain ⟨x9, hx9⟩ : ∃ x : O, x = (O.mem false [] (s.c.1.map fun f => [.view 10 f])) := ⟨_, rfl⟩
  have rx9 : x9.refs = [] := by rw [hx9]; rfl
  obtain ⟨x10, hx10⟩ : ∃ x : O, x = (O.mem false [] (ri s.c.2)) := ⟨_, rfl⟩
  have rx10 : x10.refs = [] := by rw [hx10]; rfl
  have hH : Rm s = [R, x1, x2, x3, x4, x5, x6, x7, x8, x9, x10] := by rw [hR, hx1, hx2, hx3, hx4, hx5, hx6, hx7, hx8, hx9, hx10]; rfl
  have hrl : (List.take rows.length (rows ++ marks mkTerms room)) = rows := by simp
  rw [hH]
  obtain ⟨A, hA⟩ : ∃ A, A = V.view 2 rows := ⟨_, rfl⟩
  have hAi : A.ids = [] := by rw [hA]; rfl
  rw [← hA]
  have hRr : ∀ i ∈ R.refs, i < 11 := by rw [hR]; simp [O.refs]
  refine zac (At [(0, .ptr 0 1 0 0), (1, A), (2, V.i room)] [R, x1, x2, x3, x4, x5, x6, x7, x8, x9, x10]) (by simp -dsimp [At]) ?_
  try clear h
  rintro ⟨sl, hp, bs⟩ ⟨rfl, h⟩
  simp only [zaa, zab, zad] at h
  refine zac (At [(0, .ptr 0 1 0 0), (1, A), (2, V.i room), (7, .nul 2)] [R, x1, x2, x3, x4, x5, x6, x7, x8, x9, x10, .res]) (by simp -dsimp [h, At]) ?_
  try clear h
  rintro ⟨sl, hp, bs⟩ ⟨rfl, h⟩
  simp only [zaa, zab, zad] at h
  have hb0 : (rows.length : Int) * 16 ≤ 140737488355328 := by omega
  refine zac (At [(0, .ptr 0 1 0 0), (1, A), (2, V.i room), (7, .own 13 2 0 rows.length rows.length)] [R, x1, x2, x3, x4, x5, x6, x7, x8, x9, x10, .res, .res, .mem false [] rows]) ?_ ?_
  · simp -dsimp [h]
    refine ⟨_, Weak.ownnul 7 2 (es' := 2) (by simp -dsimp [h]), ?_⟩
    simp -dsimp [h, hA, hb0, At]
  try clear h
  rintro ⟨sl, hp, bs⟩ ⟨rfl, h⟩
  simp only [zaa, zab, zad] at h
  refine zac (At [(0, .ptr 0 1 0 0), (1, A), (7, .own 13 2 0 (rows.length + room) (rows.length + room))] [R, x1, x2, x3, x4, x5, x6, x7, x8, x9, x10, .res, .res, .mem false [] (rows ++ marks mkTerms room)]) ?_ ?_
  · refine zac (At [(0, .ptr 0 1 0 0), (1, A), (2, V.i room), (7, .own 13 2 0 rows.length rows.length), (8, V.i 0)] [R, x1, x2, x3, x4, x5, x6, x7, x8, x9, x10, .res, .res, .mem false [] rows]) (by simp -dsimp [h, At]) ?_
    try clear h
    rintro ⟨sl, hp, bs⟩ ⟨rfl, h⟩
    simp only [zaa, zab, zad] at h
    refine zag (zbY 14 (by simp) room (fun i st => ∃ C, C = rows ++ marks mkTerms i ∧ At [(0, .ptr 0 1 0 0), (1, A), (2, V.i room), (7, .own 13 2 0 (rows.length + i) (rows.length + i)), (8, V.i i)] [R, x1, x2, x3, x4, x5, x6, x7, x8, x9, x10, .res, .res, .mem false [] C] st) ⟨rows, by simp [marks], rfl, by simpa using h⟩ ?_)
    clear h
    rintro i ⟨sl, hp, bs⟩ hi ⟨C, hC, rfl, h⟩
    simp only [zaa, zab] at h
    unfold zaN.b0
    have hCl : C.length = rows.length + i := by rw [hC]; simp [zc1]
    by_cases hil : i < room
    · have hil' : (i : Int) < room := by omega
      have hw : IntKind.i64.wrap ((i : Int) + 1) = ((i + 1 : Nat) : Int) := by rw [wrap64] <;> omega
      have hl := zdn i (by omega)
      have hsu := zdP mkTerms i
      have hbb : ((rows.length + i : Nat) : Int) * 16 + 16 ≤ 140737488355328 := by omega
      have hb2 : ((rows.length : Int) + (i : Int) + 1) * 16 ≤ 140737488355328 := by omega
      simp -dsimp [h, hil, hil']
      refine gcall (hl) (by simp -dsimp [h, hCl, hb2, At, hw, hil, hAi, rx1, rx2, rx3, rx4, rx5, rx6, rx7, rx8, rx9, rx10]) (by simp -dsimp [h, hCl, hb2, At, hw, hil, hAi, rx1, rx2, rx3, rx4, rx5, rx6, rx7, rx8, rx9, rx10]) ?_
      simp -dsimp [h, hCl, hb2, At, hw, hil, hAi, rx1, rx2, rx3, rx4, rx5, rx6, rx7, rx8, rx9, rx10]
      exact ⟨⟨fun x hx h14 => absurd (hRr x hx) (by omega), by rw [hC, hsu, List.append_assoc]; rfl⟩, by omega⟩
    · have hil' : ¬ (i : Int) < room := by omega
      have e : i = room := by omega
      subst e
      simp -dsimp [h, hil', At, hC]
  try clear h
  rintro ⟨sl, hp, bs⟩ ⟨rfl, h⟩
  simp only [zaa, zab, zad] at h
  obtain ⟨full, hfull⟩ : ∃ full, full = rows ++ marks mkTerms room := ⟨_, rfl⟩
  rw [← hfull] at hrl ⊢
  have hfl : full.length = rows.length + room := by rw [hfull]; simp [zc1]
  have ht : List.take (rows.length + room) full = full := List.take_of_length_le (by omega)
  have hb3 : ((s.t.1.length : Int) + 1) * 24 ≤ 140737488355328 := by omega
  have hb4 : ((s.t.1.length : Int) + 1) * 8 ≤ 140737488355328 := by omega
  have rl : (ri s.t.2).length = s.t.1.length := by rw [zeN, h4]
  have hle : rows.length ≤ rows.length + room := Nat.le_add_right _ _
  have hli : (rows.length : Int) ≤ rows.length + room := by omega
  simp -dsimp [h, hfl, ht, hR, rmRow, hx3, hx4, hA, hb3, hb4, rl, hrl, V.isView, V.rowsV, hle, hli, zaN.rs]
  refine ⟨[O.res, .res, .mem true [] full, .res, .res, .res, .res], ?_⟩
  simp [Rm, RmS.addTerms, rmRow, List.map_append, ri, hx1, hx2, hx3, hx4, hx5, hx6, hx7, hx8, hx9, hx10]
theorem zhx (s : RmS) (rows : List (List V)) (room : Nat) (h1 : rows.length ≤ 1000000) (h2 : room ≤ 1000) (h3 : s.v.1.length ≤ 1000000000000) (h4 : s.v.2.length = s.v.1.length) :
    DC Tryz.prog zaW.id [.ptr 0 1 0 0, .view 3 rows, V.i room] (Rm s) (fun r H => r = .view 3 rows ∧ H = Rm (s.addVars (rows ++ marks mkVars room) rows.length)) := by
  refine DC.trim (Q := fun r H => r = .view 3 rows ∧ ∃ E, H = Rm (s.addVars (rows ++ marks mkVars room) rows.length) ++ E) ?_ ?_
  rotate_left
  · rintro r H ⟨rfl, E, rfl⟩
    exact ⟨11, by simp [Rm], by simp [V.ids], rfl, by simp [Rm, limO, O.refs]⟩
  refine DC.of zaW.ok (by simp) ?_
  unfold zaW.ir
  have hRm : ∀ t : RmS, Rm t = Rm t := fun _ => rfl
  obtain ⟨R, hR⟩ : ∃ R, R = O.mem false [1, 2, 3, 4, 5, 6, 7, 8, 9, 10] [rmRow s.i.1.length s.t.1.length s.v.1.length s.l.1.length s.c.1.length] := ⟨_, rfl⟩
  obtain ⟨x1, hx1⟩ : ∃ x : O, x = (O.mem false [] (s.i.1.map fun f => [.view 1 f])) := ⟨_, rfl⟩
  have rx1 : x1.refs = [] := by rw [hx1]; rfl
  obtain ⟨x2, hx2⟩ : ∃ x : O, x = (O.mem false [] (ri s.i.2)) := ⟨_, rfl⟩
  have rx2 : x2.refs = [] := by rw [hx2]; rfl
  obtain ⟨x3, hx3⟩ : ∃ x : O, x = (O.mem false [] (s.t.1.map fun f => [.view 2 f])) := ⟨_, rfl⟩
  have rx3 : x3.refs = [] := by rw [hx3]; rfl
  obtain ⟨x4, hx4⟩ : ∃ x : O, x = (O.mem false [] (ri s.t.2)) := ⟨_, rfl⟩
  have rx4 : x4.refs = [] := by rw [hx4]; rfl
  obtain ⟨x5, hx5⟩ : ∃ x : O, x = (O.mem false [] (s.v.1.map fun f => [.view 3 f])) := ⟨_, rfl⟩
  have rx5 : x5.refs = [] := by rw [hx5]; rfl
  obtain ⟨x6, hx6⟩ : ∃ x : O, x = (O.mem false [] (ri s.v.2)) := ⟨_, rfl⟩
  have rx6 : x6.refs = [] := by rw [hx6]; rfl
  obtain ⟨x7, hx7⟩ : ∃ x : O, x = (O.mem false [] (s.l.1.map fun f => [.view 1 f])) := ⟨_, rfl⟩
  have rx7 : x7.refs = [] := by rw [hx7]; rfl
  obtain ⟨x8, hx8⟩ : ∃ x : O, x = (O.mem false [] (ri s.l.2)) := ⟨_, rfl⟩
  have rx8 : x8.refs = [] := by rw [hx8]; rfl
  obtain ⟨x9, hx9⟩ : ∃ x : O, x = (O.mem false [] (s.c.1.map fun f => [.view 10 f])) := ⟨_, rfl⟩
  have rx9 : x9.refs = [] := by rw [hx9]; rfl
  obtain ⟨x10, hx10⟩ : ∃ x : O, x = (O.mem false [] (ri s.c.2)) := ⟨_, rfl⟩
  have rx10 : x10.refs = [] := by rw [hx10]; rfl
  have hH : Rm s = [R, x1, x2, x3, x4, x5, x6, x7, x8, x9, x10] := by rw [hR, hx1, hx2, hx3, hx4, hx5, hx6, hx7, hx8, hx9, hx10]; rfl
  have hrl : (List.take rows.length (rows ++ marks mkVars room)) = rows := by simp
  rw [hH]
  obtain ⟨A, hA⟩ : ∃ A, A = V.view 3 rows := ⟨_, rfl⟩
  have hAi : A.ids = [] := by rw [hA]; rfl
  rw [← hA]
  have hRr : ∀ i ∈ R.refs, i < 11 := by rw [hR]; simp [O.refs]
  refine zac (At [(0, .ptr 0 1 0 0), (1, A), (2, V.i room)] [R, x1, x2, x3, x4, x5, x6, x7, x8, x9, x10]) (by simp -dsimp [At]) ?_
  try clear h
  rintro ⟨sl, hp, bs⟩ ⟨rfl, h⟩
  simp only [zaa, zab, zad] at h
  refine zac (At [(0, .ptr 0 1 0 0), (1, A), (2, V.i room), (7, .nul 3)] [R, x1, x2, x3, x4, x5, x6, x7, x8, x9, x10, .res]) (by simp -dsimp [h, At]) ?_
  try clear h
  rintro ⟨sl, hp, bs⟩ ⟨rfl, h⟩
  simp only [zaa, zab, zad] at h
  have hb0 : (rows.length : Int) * 32 ≤ 140737488355328 := by omega
  refine zac (At [(0, .ptr 0 1 0 0), (1, A), (2, V.i room), (7, .own 13 3 0 rows.length rows.length)] [R, x1, x2, x3, x4, x5, x6, x7, x8, x9, x10, .res, .res, .mem false [] rows]) ?_ ?_
  · simp -dsimp [h]
    refine ⟨_, Weak.ownnul 7 3 (es' := 3) (by simp -dsimp [h]), ?_⟩
    simp -dsimp [h, hA, hb0, At]
  try clear h
  rintro ⟨sl, hp, bs⟩ ⟨rfl, h⟩
  simp only [zaa, zab, zad] at h
  refine zac (At [(0, .ptr 0 1 0 0), (1, A), (7, .own 13 3 0 (rows.length + room) (rows.length + room))] [R, x1, x2, x3, x4, x5, x6, x7, x8, x9, x10, .res, .res, .mem false [] (rows ++ marks mkVars room)]) ?_ ?_
  · refine zac (At [(0, .ptr 0 1 0 0), (1, A), (2, V.i room), (7, .own 13 3 0 rows.length rows.length), (8, V.i 0)] [R, x1, x2, x3, x4, x5, x6, x7, x8, x9, x10, .res, .res, .mem false [] rows]) (by simp -dsimp [h, At]) ?_
    try clear h
    rintro ⟨sl, hp, bs⟩ ⟨rfl, h⟩
    simp only [zaa, zab, zad] at h
    refine zag (zbY 14 (by simp) room (fun i st => ∃ C, C = rows ++ marks mkVars i ∧ At [(0, .ptr 0 1 0 0), (1, A), (2, V.i room), (7, .own 13 3 0 (rows.length + i) (rows.length + i)), (8, V.i i)] [R, x1, x2, x3, x4, x5, x6, x7, x8, x9, x10, .res, .res, .mem false [] C] st) ⟨rows, by simp [marks], rfl, by simpa using h⟩ ?_)
    clear h
    rintro i ⟨sl, hp, bs⟩ hi ⟨C, hC, rfl, h⟩
    simp only [zaa, zab] at h
    unfold zaW.b0
    have hCl : C.length = rows.length + i := by rw [hC]; simp [zc1]
    by_cases hil : i < room
    · have hil' : (i : Int) < room := by omega
      have hw : IntKind.i64.wrap ((i : Int) + 1) = ((i + 1 : Nat) : Int) := by rw [wrap64] <;> omega
      have hl := zdn i (by omega)
      have hsu := zdP mkVars i
      have hbb : ((rows.length + i : Nat) : Int) * 32 + 32 ≤ 140737488355328 := by omega
      have hb2 : ((rows.length : Int) + (i : Int) + 1) * 32 ≤ 140737488355328 := by omega
      simp -dsimp [h, hil, hil']
      refine gcall (hl) (by simp -dsimp [h, hCl, hb2, At, hw, hil, hAi, rx1, rx2, rx3, rx4, rx5, rx6, rx7, rx8, rx9, rx10]) (by simp -dsimp [h, hCl, hb2, At, hw, hil, hAi, rx1, rx2, rx3, rx4, rx5, rx6, rx7, rx8, rx9, rx10]) ?_
      simp -dsimp [h, hCl, hb2, At, hw, hil, hAi, rx1, rx2, rx3, rx4, rx5, rx6, rx7, rx8, rx9, rx10]
      exact ⟨⟨fun x hx h14 => absurd (hRr x hx) (by omega), by rw [hC, hsu, List.append_assoc]; rfl⟩, by omega⟩
    · have hil' : ¬ (i : Int) < room := by omega
      have e : i = room := by omega
      subst e
      simp -dsimp [h, hil', At, hC]
  try clear h
  rintro ⟨sl, hp, bs⟩ ⟨rfl, h⟩
  simp only [zaa, zab, zad] at h
  obtain ⟨full, hfull⟩ : ∃ full, full = rows ++ marks mkVars room := ⟨_, rfl⟩
  rw [← hfull] at hrl ⊢
  have hfl : full.length = rows.length + room := by rw [hfull]; simp [zc1]
  have ht : List.take (rows.length + room) full = full := List.take_of_length_le (by omega)
  have hb3 : ((s.v.1.length : Int) + 1) * 24 ≤ 140737488355328 := by omega
  have hb4 : ((s.v.1.length : Int) + 1) * 8 ≤ 140737488355328 := by omega
  have rl : (ri s.v.2).length = s.v.1.length := by rw [zeN, h4]
  have hle : rows.length ≤ rows.length + room := Nat.le_add_right _ _
  have hli : (rows.length : Int) ≤ rows.length + room := by omega
  simp -dsimp [h, hfl, ht, hR, rmRow, hx5, hx6, hA, hb3, hb4, rl, hrl, V.isView, V.rowsV, hle, hli, zaW.rs]
  refine ⟨[O.res, .res, .mem true [] full, .res, .res, .res, .res], ?_⟩
  simp [Rm, RmS.addVars, rmRow, List.map_append, ri, hx1, hx2, hx3, hx4, hx5, hx6, hx7, hx8, hx9, hx10]
end Go.Abs.G

namespace Go.Abs.G
open Go.Proofs
def lim : Nat := 1000000000000
structure RmLe (s : RmS) (n : Nat) : Prop where
  ok : RmOk s
  i : s.i.1.length ≤ n
  t : s.t.1.length ≤ n
  v : s.v.1.length ≤ n
  l : s.l.1.length ≤ n
  c : s.c.1.length ≤ n
theorem RmLe.mono {s : RmS} {n k : Nat} (h : RmLe s n) (hk : n ≤ k) : RmLe s k :=
  ⟨h.ok, Nat.le_trans h.i hk, Nat.le_trans h.t hk, Nat.le_trans h.v hk, Nat.le_trans h.l hk, Nat.le_trans h.c hk⟩
theorem RmLe.addInts {s : RmS} {n : Nat} (h : RmLe s n) (hn : n + 1 ≤ 1000000000000) {rows : List (List V)} {room : Nat} (hr : rows.length + room ≤ 10000000) : RmLe (s.addInts (rows ++ marks mkInts room) rows.length) (n + 1) := by
  obtain ⟨⟨i, t, v, l, c⟩, hi, ht, hv, hl, hc⟩ := h
  exact ⟨⟨i.add hr (by omega), t, v, l, c⟩, by simpa [RmS.addInts] using hi, Nat.le_succ_of_le ht, Nat.le_succ_of_le hv, Nat.le_succ_of_le hl, Nat.le_succ_of_le hc⟩
theorem RmLe.addTerms {s : RmS} {n : Nat} (h : RmLe s n) (hn : n + 1 ≤ 1000000000000) {rows : List (List V)} {room : Nat} (hr : rows.length + room ≤ 10000000) : RmLe (s.addTerms (rows ++ marks mkTerms room) rows.length) (n + 1) := by
  obtain ⟨⟨i, t, v, l, c⟩, hi, ht, hv, hl, hc⟩ := h
  exact ⟨⟨i, t.add hr (by omega), v, l, c⟩, Nat.le_succ_of_le hi, by simpa [RmS.addTerms] using ht, Nat.le_succ_of_le hv, Nat.le_succ_of_le hl, Nat.le_succ_of_le hc⟩
theorem RmLe.addVars {s : RmS} {n : Nat} (h : RmLe s n) (hn : n + 1 ≤ 1000000000000) {rows : List (List V)} {room : Nat} (hr : rows.length + room ≤ 10000000) : RmLe (s.addVars (rows ++ marks mkVars room) rows.length) (n + 1) := by
  obtain ⟨⟨i, t, v, l, c⟩, hi, ht, hv, hl, hc⟩ := h
  exact ⟨⟨i, t, v.add hr (by omega), l, c⟩, Nat.le_succ_of_le hi, Nat.le_succ_of_le ht, by simpa [RmS.addVars] using hv, Nat.le_succ_of_le hl, Nat.le_succ_of_le hc⟩
theorem RmLe.addLists {s : RmS} {n : Nat} (h : RmLe s n) (hn : n + 1 ≤ 1000000000000) {rows : List (List V)} {room : Nat} (hr : rows.length + room ≤ 10000000) : RmLe (s.addLists (rows ++ marks mkLists room) rows.length) (n + 1) := by
  obtain ⟨⟨i, t, v, l, c⟩, hi, ht, hv, hl, hc⟩ := h
  exact ⟨⟨i, t, v, l.add hr (by omega), c⟩, Nat.le_succ_of_le hi, Nat.le_succ_of_le ht, Nat.le_succ_of_le hv, by simpa [RmS.addLists] using hl, Nat.le_succ_of_le hc⟩
theorem RmLe.addCons {s : RmS} {n : Nat} (h : RmLe s n) (hn : n + 1 ≤ 1000000000000) {rows : List (List V)} {room : Nat} (hr : rows.length + room ≤ 10000000) : RmLe (s.addCons (rows ++ marks mkCons room) rows.length) (n + 1) := by
  obtain ⟨⟨i, t, v, l, c⟩, hi, ht, hv, hl, hc⟩ := h
  exact ⟨⟨i, t, v, l, c.add hr (by omega)⟩, Nat.le_succ_of_le hi, Nat.le_succ_of_le ht, Nat.le_succ_of_le hv, Nat.le_succ_of_le hl, by simpa [RmS.addCons] using hc⟩
abbrev s11 : List Nat := [0, 1, 2, 3, 4, 5, 6, 7, 8, 9, 10]
theorem zmo (f : Nat → Nat) (h : ∀ i, i ≤ 10 → f i = i) (s : RmS) : (Rm s).map (O.ren f) = Rm s := by
  simp [Rm, O.ren, rmRow, V.renL, V.ren, ri, Function.comp_def, nilS, h 1, h 2, h 3, h 4, h 5, h 6, h 7, h 8, h 9, h 10]
theorem zmJ (s : RmS) (E : Heap) : clos (Rm s ++ E) 8 [0] = s11 := by simp [clos, addAll, O.refs, Rm]
theorem znR (s : RmS) (E : Heap) : OkSel (Rm s ++ E) s11 := by
  simp [OkSel, O.refs, Rm]
theorem znS (s : RmS) (E : Heap) : sub (Rm s ++ E) s11 = Rm s := by
  have h := zmo (idx s11) (by decide) s
  exact h
theorem zk0 (n : Nat) : ∀ i, i ≤ 10 → back s11 n i = i := by
  intro i hi
  have : i = 0 ∨ i = 1 ∨ i = 2 ∨ i = 3 ∨ i = 4 ∨ i = 5 ∨ i = 6 ∨ i = 7 ∨ i = 8 ∨ i = 9 ∨ i = 10 := by omega
  rcases this with h | h | h | h | h | h | h | h | h | h | h <;> subst h <;> simp [back]
theorem zkV (s s' : RmS) (E : Heap) : merge (Rm s ++ E) s11 (Rm s') = Rm s' ++ E := by
  have h := zmo (back s11 (Rm s ++ E).length) (zk0 _) s'
  have h1 : (Rm s').take 11 = Rm s' := rfl
  have h2 : (Rm s').drop 11 = [] := rfl
  have h3 : s11.length = 11 := rfl
  simp only [merge, h3, h1, h2, h, List.map_nil, List.append_nil]
  rfl
theorem gcallR {P : Program} {f : FuncId} {d : Option Nat} {xs : List Operand} {k : St → Prop} {st : St} {s : RmS} {F : Heap} {zs : List V} {Q : V → RmS → Prop} (hc : DC P f zs (Rm s) fun r H => (∀ g, r.ren g = r) ∧ ∃ s', Q r s' ∧ H = Rm s') (hh : st.hp = Rm s ++ F)
    (hi : addAll [] (V.idsL (xs.map st.ev)) = [0]) (ha : V.renL (idx s11) (xs.map st.ev) = zs) (hf : okFunc P f = true)
    (hk : ∀ r s', Q r s' → k ({ st with hp := Rm s' ++ F }.put d r)) : IvcF P (.callm d (.func f) xs) k st := by
  refine zgo hc s11 (by rw [hi, hh]; exact zmJ s F) (by rw [hh]; exact znR s F) ha (by rw [hh]; exact znS s F) hf ?_
  rintro r H ⟨hr, s', hq, rfl⟩
  rw [hr, hh, zkV]
  exact hk r s' hq
end Go.Abs.G

namespace Go.Abs.G
open Go.Proofs
section
variable {s : RmS} {F : Heap}
@[simp] theorem zqn : (Rm s).length = 11 := rfl
@[simp] theorem zqj (a : O) : (Rm s ++ (a :: F))[11]? = some a := rfl
@[simp] theorem zpF (a : O) (h) : (Rm s ++ (a :: F))[11]'h = a := rfl
@[simp] theorem znN (a x : O) : (Rm s ++ (a :: F)).set 11 x = Rm s ++ (x :: F) := rfl
@[simp] theorem zl0 (a : O) : List.take 12 (Rm s ++ [a]) = Rm s ++ [a] := rfl
@[simp] theorem zl1 (a y0 : O) : List.take 12 (Rm s ++ [a, y0]) = Rm s ++ [a] := rfl
@[simp] theorem zl2 (a y0 y1 : O) : List.take 12 (Rm s ++ [a, y0, y1]) = Rm s ++ [a] := rfl
@[simp] theorem zl3 (a y0 y1 y2 : O) : List.take 12 (Rm s ++ [a, y0, y1, y2]) = Rm s ++ [a] := rfl
@[simp] theorem zl4 (a y0 y1 y2 y3 : O) : List.take 12 (Rm s ++ [a, y0, y1, y2, y3]) = Rm s ++ [a] := rfl
@[simp] theorem zl5 (a y0 y1 y2 y3 y4 : O) : List.take 12 (Rm s ++ [a, y0, y1, y2, y3, y4]) = Rm s ++ [a] := rfl
@[simp] theorem zoH : (Rm s).map (limO 12) = Rm s := rfl
@[simp] theorem zqk (a b : O) : (Rm s ++ (a :: b :: F))[12]? = some b := rfl
@[simp] theorem zpG (a b : O) (h) : (Rm s ++ (a :: b :: F))[12]'h = b := rfl
@[simp] theorem znO (a b x : O) : (Rm s ++ (a :: b :: F)).set 12 x = Rm s ++ (a :: x :: F) := rfl
@[simp] theorem zl6 (a b : O) : List.take 13 (Rm s ++ [a, b]) = Rm s ++ [a, b] := rfl
@[simp] theorem zl7 (a b y0 : O) : List.take 13 (Rm s ++ [a, b, y0]) = Rm s ++ [a, b] := rfl
@[simp] theorem zl8 (a b y0 y1 : O) : List.take 13 (Rm s ++ [a, b, y0, y1]) = Rm s ++ [a, b] := rfl
@[simp] theorem zl9 (a b y0 y1 y2 : O) : List.take 13 (Rm s ++ [a, b, y0, y1, y2]) = Rm s ++ [a, b] := rfl
@[simp] theorem zma (a b y0 y1 y2 y3 : O) : List.take 13 (Rm s ++ [a, b, y0, y1, y2, y3]) = Rm s ++ [a, b] := rfl
@[simp] theorem zmb (a b y0 y1 y2 y3 y4 : O) : List.take 13 (Rm s ++ [a, b, y0, y1, y2, y3, y4]) = Rm s ++ [a, b] := rfl
@[simp] theorem zoI : (Rm s).map (limO 13) = Rm s := rfl
@[simp] theorem zql (a b c : O) : (Rm s ++ (a :: b :: c :: F))[13]? = some c := rfl
@[simp] theorem zpH (a b c : O) (h) : (Rm s ++ (a :: b :: c :: F))[13]'h = c := rfl
@[simp] theorem znP (a b c x : O) : (Rm s ++ (a :: b :: c :: F)).set 13 x = Rm s ++ (a :: b :: x :: F) := rfl
@[simp] theorem zmc (a b c : O) : List.take 14 (Rm s ++ [a, b, c]) = Rm s ++ [a, b, c] := rfl
@[simp] theorem zmd (a b c y0 : O) : List.take 14 (Rm s ++ [a, b, c, y0]) = Rm s ++ [a, b, c] := rfl
@[simp] theorem zme (a b c y0 y1 : O) : List.take 14 (Rm s ++ [a, b, c, y0, y1]) = Rm s ++ [a, b, c] := rfl
@[simp] theorem zmf (a b c y0 y1 y2 : O) : List.take 14 (Rm s ++ [a, b, c, y0, y1, y2]) = Rm s ++ [a, b, c] := rfl
@[simp] theorem zmg (a b c y0 y1 y2 y3 : O) : List.take 14 (Rm s ++ [a, b, c, y0, y1, y2, y3]) = Rm s ++ [a, b, c] := rfl
@[simp] theorem zmh (a b c y0 y1 y2 y3 y4 : O) : List.take 14 (Rm s ++ [a, b, c, y0, y1, y2, y3, y4]) = Rm s ++ [a, b, c] := rfl
@[simp] theorem zoJ : (Rm s).map (limO 14) = Rm s := rfl
@[simp] theorem zqm (a b c d : O) : (Rm s ++ (a :: b :: c :: d :: F))[14]? = some d := rfl
@[simp] theorem zpI (a b c d : O) (h) : (Rm s ++ (a :: b :: c :: d :: F))[14]'h = d := rfl
@[simp] theorem znQ (a b c d x : O) : (Rm s ++ (a :: b :: c :: d :: F)).set 14 x = Rm s ++ (a :: b :: c :: x :: F) := rfl
@[simp] theorem zmi (a b c d : O) : List.take 15 (Rm s ++ [a, b, c, d]) = Rm s ++ [a, b, c, d] := rfl
@[simp] theorem zmj (a b c d y0 : O) : List.take 15 (Rm s ++ [a, b, c, d, y0]) = Rm s ++ [a, b, c, d] := rfl
@[simp] theorem zmk (a b c d y0 y1 : O) : List.take 15 (Rm s ++ [a, b, c, d, y0, y1]) = Rm s ++ [a, b, c, d] := rfl
@[simp] theorem zml (a b c d y0 y1 y2 : O) : List.take 15 (Rm s ++ [a, b, c, d, y0, y1, y2]) = Rm s ++ [a, b, c, d] := rfl
@[simp] theorem zmm (a b c d y0 y1 y2 y3 : O) : List.take 15 (Rm s ++ [a, b, c, d, y0, y1, y2, y3]) = Rm s ++ [a, b, c, d] := rfl
@[simp] theorem zmn (a b c d y0 y1 y2 y3 y4 : O) : List.take 15 (Rm s ++ [a, b, c, d, y0, y1, y2, y3, y4]) = Rm s ++ [a, b, c, d] := rfl
@[simp] theorem zoK : (Rm s).map (limO 15) = Rm s := rfl
@[simp] theorem zoG : (Rm s).map (limO 11) = Rm s := rfl
@[simp] theorem znT : List.take 11 (Rm s ++ F) = Rm s := rfl
end
end Go.Abs.G

namespace Go.Abs.G
open Go.Proofs
theorem ziN {α : Type} (l : List α) (i : Nat) (h : i < l.length) : l.take (i + 1) = l.take i ++ [l[i]] := by rw [List.take_add_one, List.getElem?_eq_getElem h]; rfl
theorem zgV {α : Type} (f : RmS → α → RmS) (P : α → Prop) (k : Nat) (hf : ∀ s n x, RmLe s n → n + k ≤ 1000000000000 → P x → RmLe (f s x) (n + k)) : ∀ (l : List α) (s : RmS) (n : Nat), RmLe s n → n + l.length * k ≤ 1000000000000 → (∀ x ∈ l, P x) → RmLe (l.foldl f s) (n + l.length * k)
  | [], s, n, h, _, _ => by simpa using h
  | x :: l, s, n, h, hn, hp => by
    have e : n + (x :: l).length * k = (n + k) + l.length * k := by rw [List.length_cons, Nat.add_mul]; omega
    rw [e] at hn ⊢
    exact zgV f P k hf l _ _ (hf s n x h (by omega) (hp x (by simp))) hn fun y hy => hp y (by simp [hy])
def RmS.lInts (s : RmS) (l : List Int) (room : Nat) : RmS := s.addInts (ri l ++ marks mkInts room) (l.length : Int)
def RmS.lTerms (s : RmS) (l : List Term) (room : Nat) : RmS := s.addTerms (l.map Term.cells ++ marks mkTerms room) (l.length : Int)
def RmS.lVars (s : RmS) (l : List Var) (room : Nat) : RmS := s.addVars (l.map Var.cells ++ marks mkVars room) (l.length : Int)
def RmS.fLists (s : RmS) (l : List (List Int)) : RmS := l.foldl (fun s r => s.lInts r 4) s
def RmS.lLists (s : RmS) (l : List (List Int)) (room : Nat) : RmS := (s.fLists l).addLists ((l.map fun r => [vInts r]) ++ marks mkLists room) (l.length : Int)
def RmS.lCon (s : RmS) (c : Con) (room : Nat) : RmS := (((s.lTerms c.terms room).lInts c.xs room).lInts c.table room).lLists c.rows room
def RmS.fCons (s : RmS) (l : List Con) : RmS := l.foldl (fun s c => s.lCon c 4) s
def RmS.lCons (s : RmS) (l : List Con) (room : Nat) : RmS := (s.fCons l).addCons (l.map Con.cells ++ marks mkCons room) (l.length : Int)
def RmS.lModel (s : RmS) (m : Model) : RmS := ((s.lVars m.vars 40).lCons m.cons 40).lTerms m.goal 40
theorem RmLe.lInts {s : RmS} {n : Nat} (h : RmLe s n) (hn : n + 1 ≤ 1000000000000) {l : List Int} {room : Nat} (hr : l.length ≤ 1000000) (hm : room ≤ 1000) : RmLe (s.lInts l room) (n + 1) := by
  have := h.addInts hn (rows := ri l) (room := room) (by rw [zeN]; omega)
  rwa [zeN] at this
theorem RmLe.lTerms {s : RmS} {n : Nat} (h : RmLe s n) (hn : n + 1 ≤ 1000000000000) {l : List Term} {room : Nat} (hr : l.length ≤ 1000000) (hm : room ≤ 1000) : RmLe (s.lTerms l room) (n + 1) := by
  have := h.addTerms hn (rows := l.map Term.cells) (room := room) (by simp; omega)
  rwa [List.length_map] at this
theorem RmLe.lVars {s : RmS} {n : Nat} (h : RmLe s n) (hn : n + 1 ≤ 1000000000000) {l : List Var} {room : Nat} (hr : l.length ≤ 1000000) (hm : room ≤ 1000) : RmLe (s.lVars l room) (n + 1) := by
  have := h.addVars hn (rows := l.map Var.cells) (room := room) (by simp; omega)
  rwa [List.length_map] at this
theorem RmLe.fLists {s : RmS} {n : Nat} (h : RmLe s n) {l : List (List Int)} (hn : n + l.length ≤ 1000000000000) (hr : ∀ r ∈ l, r.length ≤ 1000000) : RmLe (s.fLists l) (n + l.length) := by
  have := zgV (fun s r => s.lInts r 4) (fun r => r.length ≤ 1000000) 1 (fun s n x h hn hx => h.lInts hn hx (by omega)) l s n h (by omega) hr
  rw [Nat.mul_one] at this
  exact this
theorem RmLe.lLists {s : RmS} {n : Nat} (h : RmLe s n) {l : List (List Int)} {room : Nat} (hn : n + l.length + 1 ≤ 1000000000000) (hr : ∀ r ∈ l, r.length ≤ 1000000) (hl : l.length ≤ 1000000) (hm : room ≤ 1000) : RmLe (s.lLists l room) (n + l.length + 1) := by
  have := (h.fLists (l := l) (by omega) hr).addLists hn (rows := l.map fun r => [vInts r]) (room := room) (by simp; omega)
  rwa [List.length_map] at this
structure ConLe (c : Con) : Prop where
  terms : c.terms.length ≤ 20000
  xs : c.xs.length ≤ 20000
  table : c.table.length ≤ 20000
  rows : c.rows.length ≤ 20000
  row : ∀ r ∈ c.rows, r.length ≤ 20000
theorem RmLe.lCon {s : RmS} {n : Nat} (h : RmLe s n) {c : Con} (hc : ConLe c) {room : Nat} (hn : n + 20004 ≤ 1000000000000) (hm : room ≤ 1000) : RmLe (s.lCon c room) (n + 20004) := by
  have r := hc.rows
  have h1 := h.lTerms (l := c.terms) (room := room) (by omega) (by have := hc.terms; omega) hm
  have h2 := h1.lInts (l := c.xs) (room := room) (by omega) (by have := hc.xs; omega) hm
  have h3 := h2.lInts (l := c.table) (room := room) (by omega) (by have := hc.table; omega) hm
  exact (h3.lLists (l := c.rows) (room := room) (by omega) (fun r hr => by have := hc.row r hr; omega) (by omega) hm).mono (by omega)
theorem RmLe.fCons {s : RmS} {n : Nat} (h : RmLe s n) {l : List Con} (hn : n + l.length * 20004 ≤ 1000000000000) (hc : ∀ c ∈ l, ConLe c) : RmLe (s.fCons l) (n + l.length * 20004) :=
  zgV (fun s c => s.lCon c 4) ConLe 20004 (fun s n x h hn hx => h.lCon hx hn (by omega)) l s n h (by omega) hc
theorem RmLe.lCons {s : RmS} {n : Nat} (h : RmLe s n) {l : List Con} {room : Nat} (hn : n + l.length * 20004 + 1 ≤ 1000000000000) (hc : ∀ c ∈ l, ConLe c) (hl : l.length ≤ 1000000) (hm : room ≤ 1000) : RmLe (s.lCons l room) (n + l.length * 20004 + 1) := by
  have := (h.fCons (l := l) (by omega) hc).addCons hn (rows := l.map Con.cells) (room := room) (by simp; omega)
  rwa [List.length_map] at this
theorem layIntsS (s : RmS) (l : List Int) (room n : Nat) (h1 : l.length ≤ 1000000) (h2 : room ≤ 1000) (hs : RmLe s n) (hn : n ≤ 1000000000000) :
    DC Tryz.prog zaB.id [.ptr 0 1 0 0, vInts l, V.i room] (Rm s) (fun r H => (∀ g, r.ren g = r) ∧ ∃ s', (r = vInts l ∧ s' = s.lInts l room) ∧ H = Rm s') := by
  refine DC.mono (zhw s (ri l) room (by rw [zeN]; exact h1) h2 (Nat.le_trans hs.i hn) hs.ok.i.n) ?_
  rintro r H ⟨rfl, rfl⟩
  exact ⟨fun g => rfl, _, ⟨rfl, rfl⟩, by rw [zeN]; rfl⟩
theorem layTermsS (s : RmS) (l : List Term) (room n : Nat) (h1 : l.length ≤ 1000000) (h2 : room ≤ 1000) (hs : RmLe s n) (hn : n ≤ 1000000000000) :
    DC Tryz.prog zaN.id [.ptr 0 1 0 0, vTerms l, V.i room] (Rm s) (fun r H => (∀ g, r.ren g = r) ∧ ∃ s', (r = vTerms l ∧ s' = s.lTerms l room) ∧ H = Rm s') := by
  refine DC.mono (zgU s (l.map Term.cells) room (by simpa using h1) h2 (Nat.le_trans hs.t hn) hs.ok.t.n) ?_
  rintro r H ⟨rfl, rfl⟩
  exact ⟨fun g => rfl, _, ⟨rfl, rfl⟩, by rw [List.length_map]; rfl⟩
theorem layVarsS (s : RmS) (l : List Var) (room n : Nat) (h1 : l.length ≤ 1000000) (h2 : room ≤ 1000) (hs : RmLe s n) (hn : n ≤ 1000000000000) :
    DC Tryz.prog zaW.id [.ptr 0 1 0 0, vVars l, V.i room] (Rm s) (fun r H => (∀ g, r.ren g = r) ∧ ∃ s', (r = vVars l ∧ s' = s.lVars l room) ∧ H = Rm s') := by
  refine DC.mono (zhx s (l.map Var.cells) room (by simpa using h1) h2 (Nat.le_trans hs.v hn) hs.ok.v.n) ?_
  rintro r H ⟨rfl, rfl⟩
  exact ⟨fun g => rfl, _, ⟨rfl, rfl⟩, by rw [List.length_map]; rfl⟩
theorem layListsS (s : RmS) (l : List (List Int)) (room n : Nat) (h1 : l.length ≤ 20000) (hx : ∀ r ∈ l, r.length ≤ 20000) (h2 : room ≤ 1000) (hs : RmLe s n) (hn : n + l.length + 1 ≤ 1000000000000) :
    DC Tryz.prog zaC.id [.ptr 0 1 0 0, vIntss l, V.i room] (Rm s) (fun r H => (∀ g, r.ren g = r) ∧ ∃ s', (r = vIntss l ∧ s' = s.lLists l room) ∧ H = Rm s') := by
  refine DC.trim (Q := fun r H => r = vIntss l ∧ ∃ E, H = Rm (s.lLists l room) ++ E) ?_ ?_
  rotate_left
  · rintro r H ⟨rfl, E, rfl⟩
    exact ⟨11, by simp, by simp [V.ids, vIntss], fun g => rfl, _, ⟨rfl, rfl⟩, by simp⟩
  refine DC.of zaC.ok (by simp) ?_
  unfold zaC.ir
  obtain ⟨A, hA⟩ : ∃ A, A = vIntss l := ⟨_, rfl⟩
  have hAi : A.ids = [] := by rw [hA]; rfl
  rw [← hA]
  obtain ⟨G, hG⟩ : ∃ G : Nat → List (List V), G = fun i => (l.take i).map (fun r => [vInts r]) := ⟨_, rfl⟩
  have hGl : ∀ i, i ≤ l.length → (G i).length = i := fun i hi => by rw [hG]; simp [hi]
  have hGs : ∀ i, (h : i < l.length) → G (i + 1) = G i ++ [(fun r => [vInts r]) l[i]] := fun i hi => by rw [hG]; simp only [ziN l i hi, List.map_append, List.map_cons, List.map_nil]
  obtain ⟨S, hS⟩ : ∃ S : Nat → RmS, S = fun i => s.fLists (l.take i) := ⟨_, rfl⟩
  have hSs : ∀ i, (h : i < l.length) → S (i + 1) = (S i).lInts l[i] 4 := fun i hi => by rw [hS]; simp only [RmS.fLists, ziN l i hi, List.foldl_append, List.foldl_cons, List.foldl_nil]
  have hSle : ∀ i, i ≤ l.length → RmLe (S i) (n + i) := fun i hi => by
    have := hs.fLists (l := l.take i) (by simp; omega) (fun r hr => by have := hx r (List.mem_of_mem_take hr); omega)
    rw [hS]; simpa [hi] using this
  refine zac (At [(0, .ptr 0 1 0 0), (1, A), (2, V.i room)] (Rm s)) (by simp -dsimp [At]) ?_
  try clear h
  rintro ⟨sl, hp, bs⟩ ⟨rfl, h⟩
  simp only [zaa, zab, zad] at h
  refine zac (At [(0, .ptr 0 1 0 0), (1, A), (2, V.i room), (7, .nul 1)] (Rm s ++ [.res])) (by simp -dsimp [h, At]) ?_
  try clear h
  rintro ⟨sl, hp, bs⟩ ⟨rfl, h⟩
  simp only [zaa, zab, zad] at h
  refine zac (At [(0, .ptr 0 1 0 0), (1, A), (2, V.i room), (7, .own 12 1 0 l.length l.length)] (Rm (s.fLists l) ++ [.res, .mem false [] (l.map (fun r => [vInts r]))])) ?_ ?_
  · refine zac (At [(0, .ptr 0 1 0 0), (1, A), (2, V.i room), (7, .own 12 1 0 0 0), (8, V.i 0)] (Rm s ++ [.res, .mem false [] []])) ?_ ?_
    · simp -dsimp [h]
      refine ⟨_, Weak.ownnul 7 1 (es' := 1) (by simp -dsimp [h]), ?_⟩
      simp -dsimp [h, hA, At]
    try clear h
    rintro ⟨sl, hp, bs⟩ ⟨rfl, h⟩
    simp only [zaa, zab, zad] at h
    refine zag (zbY 13 (by simp) l.length (fun i st => At [(0, .ptr 0 1 0 0), (1, A), (2, V.i room), (7, .own 12 1 0 i i), (8, V.i i)] (Rm (S i) ++ [.res, .mem false [] (G i)]) st) ?_ ?_)
    · have e1 : S 0 = s := by rw [hS]; rfl
      have e2 : G 0 = [] := by rw [hG]; rfl
      rw [e1, e2]
      exact ⟨rfl, by simpa using h⟩
    clear h
    rintro i ⟨sl, hp, bs⟩ hi ⟨rfl, h⟩
    simp only [zaa, zab] at h
    unfold zaC.b0
    have hCl : (G i).length = i := hGl i hi
    by_cases hil : i < l.length
    · have hil' : (i : Int) < l.length := by omega
      have hw : IntKind.i64.wrap ((i : Int) + 1) = ((i + 1 : Nat) : Int) := by rw [wrap64] <;> omega
      have hbb : ((i : Nat) : Int) * 24 + 24 ≤ 140737488355328 := by omega
      have hb2 : ((i : Int) + 1) * 24 ≤ 140737488355328 := by omega
      simp -dsimp [h, hil, hil', hA, vIntss]
      refine gcallR (layIntsS (S i) l[i] 4 (n + i) (by have := hx l[i] (List.getElem_mem hil); omega) (by omega) (hSle i hi) (by omega)) rfl ?_ ?_ (by simp) ?_
      · simp -dsimp [h, hil, V.idsL, V.ids, addAll, vInts]
      · simp -dsimp [h, hil, V.renL, V.ren, idx]
      · rintro r s' ⟨rfl, rfl⟩
        simp -dsimp [h, hil, hCl, hb2, hw, At, hSs i hil, hGs i hil, vInts]
        exact hA.symm
    · have hil' : ¬ (i : Int) < l.length := by omega
      have e : i = l.length := by omega
      subst e
      have e1 : S l.length = s.fLists l := by rw [hS]; simp
      have e2 : G l.length = l.map (fun r => [vInts r]) := by rw [hG]; simp
      simp -dsimp [h, hil', hA, vIntss, At, e1, e2]
  try clear h
  rintro ⟨sl, hp, bs⟩ ⟨rfl, h⟩
  simp only [zaa, zab, zad] at h
  obtain ⟨T, hT⟩ : ∃ T, T = s.fLists l := ⟨_, rfl⟩
  have hTl : s.lLists l room = T.addLists (l.map (fun r => [vInts r]) ++ marks mkLists room) (l.length : Int) := by rw [hT]; rfl
  have hTs : T.l.1.length ≤ 1000000000000 ∧ T.l.2.length = T.l.1.length := by
    have := hSle l.length (Nat.le_refl _)
    rw [hS] at this
    simp only [List.take_length] at this
    rw [hT]; exact ⟨this.ok.l.m, this.ok.l.n⟩
  rw [← hT, hTl]
  obtain ⟨rows, hrows⟩ : ∃ rows, rows = l.map (fun r => [vInts r]) := ⟨_, rfl⟩
  have hrlen : rows.length = l.length := by rw [hrows]; simp
  have hrl : (List.take l.length (rows ++ marks mkLists room)) = rows := by rw [← hrlen]; simp
  rw [← hrows]
  have hA2 : A = .view 1 rows := by rw [hA, hrows]; rfl
  have hAc : V.slLen A = l.length := by rw [hA2]; simp [hrlen]
  clear hA hS hSs hSle hG hGs hGl hT hTl
  refine zac (At [(0, .ptr 0 1 0 0), (1, A), (7, .own 12 1 0 (l.length + room) (l.length + room))] (Rm T ++ [.res, .mem false [] (rows ++ marks mkLists room)])) ?_ ?_
  · refine zac (At [(0, .ptr 0 1 0 0), (1, A), (2, V.i room), (7, .own 12 1 0 l.length l.length), (9, V.i 0)] (Rm T ++ [.res, .mem false [] rows])) (by simp -dsimp [h, At]) ?_
    try clear h
    rintro ⟨sl, hp, bs⟩ ⟨rfl, h⟩
    simp only [zaa, zab, zad] at h
    refine zag (zbY 13 (by simp) room (fun i st => ∃ C, C = rows ++ marks mkLists i ∧ At [(0, .ptr 0 1 0 0), (1, A), (2, V.i room), (7, .own 12 1 0 (l.length + i) (l.length + i)), (9, V.i i)] (Rm T ++ [.res, .mem false [] C]) st) ⟨rows, by simp [marks], rfl, by simpa using h⟩ ?_)
    clear h
    rintro i ⟨sl, hp, bs⟩ hi ⟨C, hC, rfl, h⟩
    simp only [zaa, zab] at h
    unfold zaC.b1
    have hCl : C.length = l.length + i := by rw [hC]; simp [zc1, hrlen]
    by_cases hil : i < room
    · have hil' : (i : Int) < room := by omega
      have hw : IntKind.i64.wrap ((i : Int) + 1) = ((i + 1 : Nat) : Int) := by rw [wrap64] <;> omega
      have hl := zdn i (by omega)
      have hsu := zdP mkLists i
      have hbb : ((l.length + i : Nat) : Int) * 24 + 24 ≤ 140737488355328 := by omega
      have hb2 : ((l.length : Int) + (i : Int) + 1) * 24 ≤ 140737488355328 := by omega
      simp -dsimp [h, hil, hil']
      refine gcall (hl) (by simp -dsimp [h, hCl, hb2, At, hw, hil, hAi]) (by simp -dsimp [h, hCl, hb2, At, hw, hil, hAi]) ?_
      simp -dsimp [h, hCl, hb2, At, hw, hil, hAi]
      rw [hC, hsu, List.append_assoc]
      exact ⟨rfl, by omega⟩
    · have hil' : ¬ (i : Int) < room := by omega
      have e : i = room := by omega
      subst e
      simp -dsimp [h, hil', At, hC]
  try clear h
  rintro ⟨sl, hp, bs⟩ ⟨rfl, h⟩
  simp only [zaa, zab, zad] at h
  obtain ⟨R, hR⟩ : ∃ R, R = O.mem false [1, 2, 3, 4, 5, 6, 7, 8, 9, 10] [rmRow T.i.1.length T.t.1.length T.v.1.length T.l.1.length T.c.1.length] := ⟨_, rfl⟩
  obtain ⟨x1, hx1⟩ : ∃ x : O, x = (O.mem false [] (T.i.1.map fun f => [.view 1 f])) := ⟨_, rfl⟩
  obtain ⟨x2, hx2⟩ : ∃ x : O, x = (O.mem false [] (ri T.i.2)) := ⟨_, rfl⟩
  obtain ⟨x3, hx3⟩ : ∃ x : O, x = (O.mem false [] (T.t.1.map fun f => [.view 2 f])) := ⟨_, rfl⟩
  obtain ⟨x4, hx4⟩ : ∃ x : O, x = (O.mem false [] (ri T.t.2)) := ⟨_, rfl⟩
  obtain ⟨x5, hx5⟩ : ∃ x : O, x = (O.mem false [] (T.v.1.map fun f => [.view 3 f])) := ⟨_, rfl⟩
  obtain ⟨x6, hx6⟩ : ∃ x : O, x = (O.mem false [] (ri T.v.2)) := ⟨_, rfl⟩
  obtain ⟨x7, hx7⟩ : ∃ x : O, x = (O.mem false [] (T.l.1.map fun f => [.view 1 f])) := ⟨_, rfl⟩
  obtain ⟨x8, hx8⟩ : ∃ x : O, x = (O.mem false [] (ri T.l.2)) := ⟨_, rfl⟩
  obtain ⟨x9, hx9⟩ : ∃ x : O, x = (O.mem false [] (T.c.1.map fun f => [.view 10 f])) := ⟨_, rfl⟩
  obtain ⟨x10, hx10⟩ : ∃ x : O, x = (O.mem false [] (ri T.c.2)) := ⟨_, rfl⟩
  have hRm : Rm T = [R, x1, x2, x3, x4, x5, x6, x7, x8, x9, x10] := by rw [hR, hx1, hx2, hx3, hx4, hx5, hx6, hx7, hx8, hx9, hx10]; rfl
  rw [hRm]
  obtain ⟨full, hfull⟩ : ∃ full, full = rows ++ marks mkLists room := ⟨_, rfl⟩
  rw [← hfull] at hrl ⊢
  have hfl : full.length = l.length + room := by rw [hfull]; simp [zc1, hrlen]
  have ht : List.take (l.length + room) full = full := List.take_of_length_le (by omega)
  obtain ⟨hT1, hT2⟩ := hTs
  have hb3 : ((T.l.1.length : Int) + 1) * 24 ≤ 140737488355328 := by omega
  have hb4 : ((T.l.1.length : Int) + 1) * 8 ≤ 140737488355328 := by omega
  have rl : (ri T.l.2).length = T.l.1.length := by rw [zeN, hT2]
  have hle : l.length ≤ l.length + room := Nat.le_add_right _ _
  have hli : (l.length : Int) ≤ l.length + room := by omega
  simp -dsimp [h, hfl, ht, hR, rmRow, hx7, hx8, hA2, hrlen, hb3, hb4, rl, hrl, V.isView, V.rowsV, hle, hli, zaC.rs]
  refine ⟨[O.res, .mem true [] full, .res, .res, .res, .res], ?_⟩
  simp [Rm, RmS.addLists, rmRow, List.map_append, ri, hx1, hx2, hx3, hx4, hx5, hx6, hx7, hx8, hx9, hx10]
end Go.Abs.G

namespace Go.Abs.G
open Go.Proofs
theorem zh0 (c : Con) : V.ids (.agg c.cells) = [] := by
  rw [V.ids]
  unfold Con.cells vTerms vInts vIntss
  simp [V.idsL, V.ids, V.i]
@[simp] theorem zpR (c : Con) : c.cells.length = 10 := rfl
@[simp] theorem zoW (c : Con) : V.idsL c.cells = [] := zh0 c
@[simp] theorem zpS (f : Nat → Nat) (c : Con) : V.renL f c.cells = c.cells := by unfold Con.cells vTerms vInts vIntss; simp [V.renL, V.ren, V.i]
@[simp] theorem zoX (c : Con) : List.take 10 c.cells = c.cells := rfl
@[simp] theorem zoV (c : Con) : List.drop 10 c.cells = [] := rfl
theorem IntsS (s : RmS) (l : List Int) (n : Nat) (h1 : l.length ≤ 1000000) (hs : RmLe s n) (hn : n ≤ 1000000000000) :
    DC Tryz.prog zbD.id [.ptr 0 1 0 0, vInts l] (Rm s) (fun r H => (∀ g, r.ren g = r) ∧ ∃ s', (r = vInts l ∧ s' = s.lInts l 40) ∧ H = Rm s') := by
  refine DC.trim (Q := fun r H => r = vInts l ∧ ∃ E, H = Rm (s.lInts l 40) ++ E) ?_ ?_
  rotate_left
  · rintro r H ⟨rfl, E, rfl⟩
    exact ⟨11, by simp, by simp [V.ids, vInts], fun g => rfl, _, ⟨rfl, rfl⟩, by simp⟩
  refine DC.of zbD.ok (by simp) ?_
  unfold zbD.ir
  obtain ⟨A, hA⟩ : ∃ A, A = vInts l := ⟨_, rfl⟩
  have hAi : A.ids = [] := by rw [hA]; rfl
  have hAr : ∀ g, A.ren g = A := by rw [hA]; exact fun g => rfl
  rw [← hA]
  simp -dsimp
  refine gcallR (F := []) (layIntsS s l 40 n h1  (by omega) hs hn) (List.append_nil _).symm ?_ ?_ (by simp) ?_
  · simp -dsimp [V.idsL, V.ids, addAll, hAi]
  · simp -dsimp [V.renL, V.ren, idx, hA]
    try rfl
  · rintro r s' ⟨rfl, rfl⟩
    rw [← hA]
    simp -dsimp [At, zbD.rs, hA]
    done
theorem TermsS (s : RmS) (l : List Term) (n : Nat) (h1 : l.length ≤ 1000000) (hs : RmLe s n) (hn : n ≤ 1000000000000) :
    DC Tryz.prog zbm.id [.ptr 0 1 0 0, vTerms l] (Rm s) (fun r H => (∀ g, r.ren g = r) ∧ ∃ s', (r = vTerms l ∧ s' = s.lTerms l 40) ∧ H = Rm s') := by
  refine DC.trim (Q := fun r H => r = vTerms l ∧ ∃ E, H = Rm (s.lTerms l 40) ++ E) ?_ ?_
  rotate_left
  · rintro r H ⟨rfl, E, rfl⟩
    exact ⟨11, by simp, by simp [V.ids, vTerms], fun g => rfl, _, ⟨rfl, rfl⟩, by simp⟩
  refine DC.of zbm.ok (by simp) ?_
  unfold zbm.ir
  obtain ⟨A, hA⟩ : ∃ A, A = vTerms l := ⟨_, rfl⟩
  have hAi : A.ids = [] := by rw [hA]; rfl
  have hAr : ∀ g, A.ren g = A := by rw [hA]; exact fun g => rfl
  rw [← hA]
  simp -dsimp
  refine gcallR (F := []) (layTermsS s l 40 n h1  (by omega) hs hn) (List.append_nil _).symm ?_ ?_ (by simp) ?_
  · simp -dsimp [V.idsL, V.ids, addAll, hAi]
  · simp -dsimp [V.renL, V.ren, idx, hA]
    try rfl
  · rintro r s' ⟨rfl, rfl⟩
    rw [← hA]
    simp -dsimp [At, zbm.rs, hA]
    done
theorem VarsS (s : RmS) (l : List Var) (n : Nat) (h1 : l.length ≤ 1000000) (hs : RmLe s n) (hn : n ≤ 1000000000000) :
    DC Tryz.prog zbE.id [.ptr 0 1 0 0, vVars l] (Rm s) (fun r H => (∀ g, r.ren g = r) ∧ ∃ s', (r = vVars l ∧ s' = s.lVars l 40) ∧ H = Rm s') := by
  refine DC.trim (Q := fun r H => r = vVars l ∧ ∃ E, H = Rm (s.lVars l 40) ++ E) ?_ ?_
  rotate_left
  · rintro r H ⟨rfl, E, rfl⟩
    exact ⟨11, by simp, by simp [V.ids, vVars], fun g => rfl, _, ⟨rfl, rfl⟩, by simp⟩
  refine DC.of zbE.ok (by simp) ?_
  unfold zbE.ir
  obtain ⟨A, hA⟩ : ∃ A, A = vVars l := ⟨_, rfl⟩
  have hAi : A.ids = [] := by rw [hA]; rfl
  have hAr : ∀ g, A.ren g = A := by rw [hA]; exact fun g => rfl
  rw [← hA]
  simp -dsimp
  refine gcallR (F := []) (layVarsS s l 40 n h1  (by omega) hs hn) (List.append_nil _).symm ?_ ?_ (by simp) ?_
  · simp -dsimp [V.idsL, V.ids, addAll, hAi]
  · simp -dsimp [V.renL, V.ren, idx, hA]
    try rfl
  · rintro r s' ⟨rfl, rfl⟩
    rw [← hA]
    simp -dsimp [At, zbE.rs, hA]
    done
theorem zm9 (s : RmS) (c : Con) (n : Nat) (hc : ConLe c) (hs0 : RmLe s n) (hn : n + 20004 ≤ 1000000000000) :
    DC Tryz.prog zbG.id [.ptr 0 1 0 0, .agg c.cells] (Rm s) (fun r H => (∀ g, r.ren g = r) ∧ ∃ s', (r = .agg c.cells ∧ s' = s.lCon c 4) ∧ H = Rm s') := by
  refine DC.trim (Q := fun r H => r = .agg c.cells ∧ ∃ E, H = Rm (s.lCon c 4) ++ E) ?_ ?_
  rotate_left
  · rintro r H ⟨rfl, E, rfl⟩
    exact ⟨11, by simp, by rw [zh0]; simp, fun g => rfl, _, ⟨rfl, rfl⟩, by simp⟩
  refine DC.of zbG.ok (by simp) ?_
  unfold zbG.ir
  have q1 := hc.terms
  have q2 := hc.xs
  have q3 := hc.table
  have q4 := hc.rows
  have hs1 := hs0.lTerms (l := c.terms) (room := 4) (by omega) (by omega) (by omega)
  have hs2 := hs1.lInts (l := c.xs) (room := 4) (by omega) (by omega) (by omega)
  have hs3 := hs2.lInts (l := c.table) (room := 4) (by omega) (by omega) (by omega)
  obtain ⟨Z, hZ⟩ : ∃ Z, Z = O.mem false [] [[V.i 0, V.i 0, nilS, V.i 0, V.i 0, V.i 0, V.i 0, nilS, nilS, nilS]] := ⟨_, rfl⟩
  have hcl : c.cells.length = 10 := rfl
  have hci : V.idsL c.cells = [] := zh0 c
  refine zac (At [(0, .ptr 0 1 0 0), (3, .ptr 11 1 0 0), (4, .ptr 12 1 0 0)] (Rm s ++ [.mem false [] [c.cells], Z])) (by simp -dsimp [At, hZ, hcl, hci]) ?_
  try clear h
  rintro ⟨sl, hp, bs⟩ ⟨rfl, h⟩
  simp only [zaa, zab, zad] at h
  refine zac (At [(0, .ptr 0 1 0 0), (3, .ptr 11 1 0 0), (4, .ptr 12 1 0 0)] (Rm (s.lTerms c.terms 4) ++ [.mem false [] [c.cells], Z])) ?_ ?_
  · simp -dsimp [h, hcl, Con.cells]
    refine gcallR (layTermsS (s) c.terms 4 (n) (by have := hc.terms; omega) (by omega) hs0 (by omega)) rfl ?_ ?_ (by simp) ?_
    · simp -dsimp [h, hcl, Con.cells, V.idsL, V.ids, addAll, vTerms, vInts, vIntss]
    · simp -dsimp [h, hcl, Con.cells, V.renL, V.ren, idx, vTerms, vInts, vIntss]
    · rintro r s' ⟨rfl, rfl⟩
      simp -dsimp [h, hcl, Con.cells, At, vTerms, vInts, vIntss]
      try rfl
  try clear h
  rintro ⟨sl, hp, bs⟩ ⟨rfl, h⟩
  simp only [zaa, zab, zad] at h
  refine zac (At [(0, .ptr 0 1 0 0), (3, .ptr 11 1 0 0), (4, .ptr 12 1 0 0)] (Rm ((s.lTerms c.terms 4).lInts c.xs 4) ++ [.mem false [] [c.cells], Z])) ?_ ?_
  · simp -dsimp [h, hcl, Con.cells]
    refine gcallR (layIntsS (s.lTerms c.terms 4) c.xs 4 (n + 1) (by have := hc.xs; omega) (by omega) hs1 (by omega)) rfl ?_ ?_ (by simp) ?_
    · simp -dsimp [h, hcl, Con.cells, V.idsL, V.ids, addAll, vTerms, vInts, vIntss]
    · simp -dsimp [h, hcl, Con.cells, V.renL, V.ren, idx, vTerms, vInts, vIntss]
    · rintro r s' ⟨rfl, rfl⟩
      simp -dsimp [h, hcl, Con.cells, At, vTerms, vInts, vIntss]
      try rfl
  try clear h
  rintro ⟨sl, hp, bs⟩ ⟨rfl, h⟩
  simp only [zaa, zab, zad] at h
  refine zac (At [(0, .ptr 0 1 0 0), (3, .ptr 11 1 0 0), (4, .ptr 12 1 0 0)] (Rm (((s.lTerms c.terms 4).lInts c.xs 4).lInts c.table 4) ++ [.mem false [] [c.cells], Z])) ?_ ?_
  · simp -dsimp [h, hcl, Con.cells]
    refine gcallR (layIntsS ((s.lTerms c.terms 4).lInts c.xs 4) c.table 4 (n + 1 + 1) (by have := hc.table; omega) (by omega) hs2 (by omega)) rfl ?_ ?_ (by simp) ?_
    · simp -dsimp [h, hcl, Con.cells, V.idsL, V.ids, addAll, vTerms, vInts, vIntss]
    · simp -dsimp [h, hcl, Con.cells, V.renL, V.ren, idx, vTerms, vInts, vIntss]
    · rintro r s' ⟨rfl, rfl⟩
      simp -dsimp [h, hcl, Con.cells, At, vTerms, vInts, vIntss]
      try rfl
  try clear h
  rintro ⟨sl, hp, bs⟩ ⟨rfl, h⟩
  simp only [zaa, zab, zad] at h
  refine zac (At [(3, .ptr 11 1 0 0), (4, .ptr 12 1 0 0)] (Rm (s.lCon c 4) ++ [.mem false [] [c.cells], Z])) ?_ ?_
  · simp -dsimp [h, hcl, Con.cells]
    refine gcallR (layListsS (((s.lTerms c.terms 4).lInts c.xs 4).lInts c.table 4) c.rows 4 (n + 1 + 1 + 1) hc.rows hc.row (by omega) hs3 (by omega)) rfl ?_ ?_ (by simp) ?_
    · simp -dsimp [h, hcl, Con.cells, V.idsL, V.ids, addAll, vTerms, vInts, vIntss]
    · simp -dsimp [h, hcl, Con.cells, V.renL, V.ren, idx, vTerms, vInts, vIntss]
    · rintro r s' ⟨rfl, rfl⟩
      simp -dsimp [h, hcl, Con.cells, At, vTerms, vInts, vIntss]
      try rfl
  try clear h
  rintro ⟨sl, hp, bs⟩ ⟨rfl, h⟩
  simp only [zaa, zab, zad] at h
  simp -dsimp [h, hcl, At, hZ, zbG.rs]
  try rfl
end Go.Abs.G

namespace Go.Abs.G
open Go.Proofs
theorem layConsS (s : RmS) (l : List Con) (room n : Nat) (h1 : l.length ≤ 20000) (hx : ∀ c ∈ l, ConLe c) (h2 : room ≤ 1000) (hs : RmLe s n) (hn : n + l.length * 20004 + 1 ≤ 1000000000000) :
    DC Tryz.prog zaJ.id [.ptr 0 1 0 0, vCons l, V.i room] (Rm s) (fun r H => (∀ g, r.ren g = r) ∧ ∃ s', (r = vCons l ∧ s' = s.lCons l room) ∧ H = Rm s') := by
  refine DC.trim (Q := fun r H => r = vCons l ∧ ∃ E, H = Rm (s.lCons l room) ++ E) ?_ ?_
  rotate_left
  · rintro r H ⟨rfl, E, rfl⟩
    exact ⟨11, by simp, by simp [V.ids, vCons], fun g => rfl, _, ⟨rfl, rfl⟩, by simp⟩
  refine DC.of zaJ.ok (by simp) ?_
  unfold zaJ.ir
  obtain ⟨A, hA⟩ : ∃ A, A = vCons l := ⟨_, rfl⟩
  have hAi : A.ids = [] := by rw [hA]; rfl
  rw [← hA]
  obtain ⟨G, hG⟩ : ∃ G : Nat → List (List V), G = fun i => (l.take i).map Con.cells := ⟨_, rfl⟩
  have hGl : ∀ i, i ≤ l.length → (G i).length = i := fun i hi => by rw [hG]; simp [hi]
  have hGs : ∀ i, (h : i < l.length) → G (i + 1) = G i ++ [Con.cells l[i]] := fun i hi => by rw [hG]; simp only [ziN l i hi, List.map_append, List.map_cons, List.map_nil]
  obtain ⟨S, hS⟩ : ∃ S : Nat → RmS, S = fun i => s.fCons (l.take i) := ⟨_, rfl⟩
  have hSs : ∀ i, (h : i < l.length) → S (i + 1) = (S i).lCon l[i] 4 := fun i hi => by rw [hS]; simp only [RmS.fCons, ziN l i hi, List.foldl_append, List.foldl_cons, List.foldl_nil]
  have hSle : ∀ i, i ≤ l.length → RmLe (S i) (n + i * 20004) := fun i hi => by
    have := hs.fCons (l := l.take i) (by simp; omega) (fun r hr => hx r (List.mem_of_mem_take hr))
    rw [hS]; simpa [hi] using this
  refine zac (At [(0, .ptr 0 1 0 0), (1, A), (2, V.i room)] (Rm s)) (by simp -dsimp [At]) ?_
  try clear h
  rintro ⟨sl, hp, bs⟩ ⟨rfl, h⟩
  simp only [zaa, zab, zad] at h
  refine zac (At [(0, .ptr 0 1 0 0), (1, A), (2, V.i room), (7, .nul 10)] (Rm s ++ [.res])) (by simp -dsimp [h, At]) ?_
  try clear h
  rintro ⟨sl, hp, bs⟩ ⟨rfl, h⟩
  simp only [zaa, zab, zad] at h
  refine zac (At [(0, .ptr 0 1 0 0), (1, A), (2, V.i room), (7, .own 12 10 0 l.length l.length)] (Rm (s.fCons l) ++ [.res, .mem false [] (l.map Con.cells)])) ?_ ?_
  · refine zac (At [(0, .ptr 0 1 0 0), (1, A), (2, V.i room), (7, .own 12 10 0 0 0), (8, V.i 0)] (Rm s ++ [.res, .mem false [] []])) ?_ ?_
    · simp -dsimp [h]
      refine ⟨_, Weak.ownnul 7 10 (es' := 10) (by simp -dsimp [h]), ?_⟩
      simp -dsimp [h, hA, At]
    try clear h
    rintro ⟨sl, hp, bs⟩ ⟨rfl, h⟩
    simp only [zaa, zab, zad] at h
    refine zag (zbY 13 (by simp) l.length (fun i st => At [(0, .ptr 0 1 0 0), (1, A), (2, V.i room), (7, .own 12 10 0 i i), (8, V.i i)] (Rm (S i) ++ [.res, .mem false [] (G i)]) st) ?_ ?_)
    · have e1 : S 0 = s := by rw [hS]; rfl
      have e2 : G 0 = [] := by rw [hG]; rfl
      rw [e1, e2]
      exact ⟨rfl, by simpa using h⟩
    clear h
    rintro i ⟨sl, hp, bs⟩ hi ⟨rfl, h⟩
    simp only [zaa, zab] at h
    unfold zaJ.b0
    have hCl : (G i).length = i := hGl i hi
    by_cases hil : i < l.length
    · have hil' : (i : Int) < l.length := by omega
      have hw : IntKind.i64.wrap ((i : Int) + 1) = ((i + 1 : Nat) : Int) := by rw [wrap64] <;> omega
      have hbb : ((i : Nat) : Int) * 144 + 144 ≤ 140737488355328 := by omega
      have hb2 : ((i : Int) + 1) * 144 ≤ 140737488355328 := by omega
      simp -dsimp [h, hil, hil', hA, vCons]
      refine gcallR (zm9 (S i) l[i] (n + i * 20004) (hx _ (List.getElem_mem hil)) (hSle i hi) (by omega)) rfl ?_ ?_ (by simp) ?_
      · simp -dsimp [h, hil, V.idsL, V.ids, addAll]
      · simp -dsimp [h, hil, V.renL, V.ren, idx]
      · rintro r s' ⟨rfl, rfl⟩
        simp -dsimp [h, hil, hCl, hb2, hw, At, hSs i hil, hGs i hil]
        exact hA.symm
    · have hil' : ¬ (i : Int) < l.length := by omega
      have e : i = l.length := by omega
      subst e
      have e1 : S l.length = s.fCons l := by rw [hS]; simp
      have e2 : G l.length = l.map Con.cells := by rw [hG]; simp
      simp -dsimp [h, hil', hA, vCons, At, e1, e2]
  try clear h
  rintro ⟨sl, hp, bs⟩ ⟨rfl, h⟩
  simp only [zaa, zab, zad] at h
  obtain ⟨T, hT⟩ : ∃ T, T = s.fCons l := ⟨_, rfl⟩
  have hTl : s.lCons l room = T.addCons (l.map Con.cells ++ marks mkCons room) (l.length : Int) := by rw [hT]; rfl
  have hTs : T.c.1.length ≤ 1000000000000 ∧ T.c.2.length = T.c.1.length := by
    have := hSle l.length (Nat.le_refl _)
    rw [hS] at this
    simp only [List.take_length] at this
    rw [hT]; exact ⟨this.ok.c.m, this.ok.c.n⟩
  rw [← hT, hTl]
  obtain ⟨rows, hrows⟩ : ∃ rows, rows = l.map Con.cells := ⟨_, rfl⟩
  have hrlen : rows.length = l.length := by rw [hrows]; simp
  have hrl : (List.take l.length (rows ++ marks mkCons room)) = rows := by rw [← hrlen]; simp
  rw [← hrows]
  have hA2 : A = .view 10 rows := by rw [hA, hrows]; rfl
  have hAc : V.slLen A = l.length := by rw [hA2]; simp [hrlen]
  clear hA hS hSs hSle hG hGs hGl hT hTl
  refine zac (At [(0, .ptr 0 1 0 0), (1, A), (7, .own 12 10 0 (l.length + room) (l.length + room))] (Rm T ++ [.res, .mem false [] (rows ++ marks mkCons room)])) ?_ ?_
  · refine zac (At [(0, .ptr 0 1 0 0), (1, A), (2, V.i room), (7, .own 12 10 0 l.length l.length), (9, V.i 0)] (Rm T ++ [.res, .mem false [] rows])) (by simp -dsimp [h, At]) ?_
    try clear h
    rintro ⟨sl, hp, bs⟩ ⟨rfl, h⟩
    simp only [zaa, zab, zad] at h
    refine zag (zbY 13 (by simp) room (fun i st => ∃ C, C = rows ++ marks mkCons i ∧ At [(0, .ptr 0 1 0 0), (1, A), (2, V.i room), (7, .own 12 10 0 (l.length + i) (l.length + i)), (9, V.i i)] (Rm T ++ [.res, .mem false [] C]) st) ⟨rows, by simp [marks], rfl, by simpa using h⟩ ?_)
    clear h
    rintro i ⟨sl, hp, bs⟩ hi ⟨C, hC, rfl, h⟩
    simp only [zaa, zab] at h
    unfold zaJ.b1
    have hCl : C.length = l.length + i := by rw [hC]; simp [zc1, hrlen]
    by_cases hil : i < room
    · have hil' : (i : Int) < room := by omega
      have hw : IntKind.i64.wrap ((i : Int) + 1) = ((i + 1 : Nat) : Int) := by rw [wrap64] <;> omega
      have hl := zdn i (by omega)
      have hsu := zdP mkCons i
      have hbb : ((l.length + i : Nat) : Int) * 144 + 144 ≤ 140737488355328 := by omega
      have hb2 : ((l.length : Int) + (i : Int) + 1) * 144 ≤ 140737488355328 := by omega
      simp -dsimp [h, hil, hil']
      refine gcall (hl) (by simp -dsimp [h, hCl, hb2, At, hw, hil, hAi]) (by simp -dsimp [h, hCl, hb2, At, hw, hil, hAi]) ?_
      simp -dsimp [h, hCl, hb2, At, hw, hil, hAi]
      rw [hC, hsu, List.append_assoc]
      exact ⟨rfl, by omega⟩
    · have hil' : ¬ (i : Int) < room := by omega
      have e : i = room := by omega
      subst e
      simp -dsimp [h, hil', At, hC]
  try clear h
  rintro ⟨sl, hp, bs⟩ ⟨rfl, h⟩
  simp only [zaa, zab, zad] at h
  obtain ⟨R, hR⟩ : ∃ R, R = O.mem false [1, 2, 3, 4, 5, 6, 7, 8, 9, 10] [rmRow T.i.1.length T.t.1.length T.v.1.length T.l.1.length T.c.1.length] := ⟨_, rfl⟩
  obtain ⟨x1, hx1⟩ : ∃ x : O, x = (O.mem false [] (T.i.1.map fun f => [.view 1 f])) := ⟨_, rfl⟩
  obtain ⟨x2, hx2⟩ : ∃ x : O, x = (O.mem false [] (ri T.i.2)) := ⟨_, rfl⟩
  obtain ⟨x3, hx3⟩ : ∃ x : O, x = (O.mem false [] (T.t.1.map fun f => [.view 2 f])) := ⟨_, rfl⟩
  obtain ⟨x4, hx4⟩ : ∃ x : O, x = (O.mem false [] (ri T.t.2)) := ⟨_, rfl⟩
  obtain ⟨x5, hx5⟩ : ∃ x : O, x = (O.mem false [] (T.v.1.map fun f => [.view 3 f])) := ⟨_, rfl⟩
  obtain ⟨x6, hx6⟩ : ∃ x : O, x = (O.mem false [] (ri T.v.2)) := ⟨_, rfl⟩
  obtain ⟨x7, hx7⟩ : ∃ x : O, x = (O.mem false [] (T.l.1.map fun f => [.view 1 f])) := ⟨_, rfl⟩
  obtain ⟨x8, hx8⟩ : ∃ x : O, x = (O.mem false [] (ri T.l.2)) := ⟨_, rfl⟩
  obtain ⟨x9, hx9⟩ : ∃ x : O, x = (O.mem false [] (T.c.1.map fun f => [.view 10 f])) := ⟨_, rfl⟩
  obtain ⟨x10, hx10⟩ : ∃ x : O, x = (O.mem false [] (ri T.c.2)) := ⟨_, rfl⟩
  have hRm : Rm T = [R, x1, x2, x3, x4, x5, x6, x7, x8, x9, x10] := by rw [hR, hx1, hx2, hx3, hx4, hx5, hx6, hx7, hx8, hx9, hx10]; rfl
  rw [hRm]
  obtain ⟨full, hfull⟩ : ∃ full, full = rows ++ marks mkCons room := ⟨_, rfl⟩
  rw [← hfull] at hrl ⊢
  have hfl : full.length = l.length + room := by rw [hfull]; simp [zc1, hrlen]
  have ht : List.take (l.length + room) full = full := List.take_of_length_le (by omega)
  obtain ⟨hT1, hT2⟩ := hTs
  have hb3 : ((T.c.1.length : Int) + 1) * 24 ≤ 140737488355328 := by omega
  have hb4 : ((T.c.1.length : Int) + 1) * 8 ≤ 140737488355328 := by omega
  have rl : (ri T.c.2).length = T.c.1.length := by rw [zeN, hT2]
  have hle : l.length ≤ l.length + room := Nat.le_add_right _ _
  have hli : (l.length : Int) ≤ l.length + room := by omega
  simp -dsimp [h, hfl, ht, hR, rmRow, hx9, hx10, hA2, hrlen, hb3, hb4, rl, hrl, V.isView, V.rowsV, hle, hli, zaJ.rs]
  refine ⟨[O.res, .mem true [] full, .res, .res, .res, .res], ?_⟩
  simp [Rm, RmS.addCons, rmRow, List.map_append, ri, hx1, hx2, hx3, hx4, hx5, hx6, hx7, hx8, hx9, hx10]
end Go.Abs.G

namespace Go.Abs.G
open Go.Proofs
theorem ConsS (s : RmS) (l : List Con) (n : Nat) (h1 : l.length ≤ 20000) (hx : ∀ c ∈ l, ConLe c) (hs : RmLe s n) (hn : n + l.length * 20004 + 1 ≤ 1000000000000) :
    DC Tryz.prog zbB.id [.ptr 0 1 0 0, vCons l] (Rm s) (fun r H => (∀ g, r.ren g = r) ∧ ∃ s', (r = vCons l ∧ s' = s.lCons l 40) ∧ H = Rm s') := by
  refine DC.trim (Q := fun r H => r = vCons l ∧ ∃ E, H = Rm (s.lCons l 40) ++ E) ?_ ?_
  rotate_left
  · rintro r H ⟨rfl, E, rfl⟩
    exact ⟨11, by simp, by simp [V.ids, vCons], fun g => rfl, _, ⟨rfl, rfl⟩, by simp⟩
  refine DC.of zbB.ok (by simp) ?_
  unfold zbB.ir
  obtain ⟨A, hA⟩ : ∃ A, A = vCons l := ⟨_, rfl⟩
  have hAi : A.ids = [] := by rw [hA]; rfl
  have hAr : ∀ g, A.ren g = A := by rw [hA]; exact fun g => rfl
  rw [← hA]
  simp -dsimp
  refine gcallR (F := []) (layConsS s l 40 n h1 hx (by omega) hs hn) (List.append_nil _).symm ?_ ?_ (by simp) ?_
  · simp -dsimp [V.idsL, V.ids, addAll, hAi]
  · simp -dsimp [V.renL, V.ren, idx, hA]
    try rfl
  · rintro r s' ⟨rfl, rfl⟩
    rw [← hA]
    simp -dsimp [At, zbB.rs, hA]
    done
theorem zj5 (m : Model) : V.ids (.agg m.cells) = [] := by
  rw [V.ids]
  unfold Model.cells vTerms vVars vCons
  simp [V.idsL, V.ids, V.i]
@[simp] theorem zpT (m : Model) : m.cells.length = 4 := rfl
@[simp] theorem zo3 (m : Model) : V.idsL m.cells = [] := zj5 m
@[simp] theorem zna (f : Nat → Nat) (m : Model) : V.renL f m.cells = m.cells := by unfold Model.cells vTerms vVars vCons; simp [V.renL, V.ren, V.i]
@[simp] theorem zo4 (m : Model) : List.take 4 m.cells = m.cells := rfl
@[simp] theorem zo2 (m : Model) : List.drop 4 m.cells = [] := rfl
structure ModLe (m : Model) : Prop where
  vars : m.vars.length ≤ 20000
  cons : m.cons.length ≤ 20000
  con : ∀ c ∈ m.cons, ConLe c
  goal : m.goal.length ≤ 20000
theorem RmLe.lModel {s : RmS} {n : Nat} (h : RmLe s n) {m : Model} (hm : ModLe m) (hn : n + 401000000 ≤ 1000000000000) : RmLe (s.lModel m) (n + 401000000) := by
  have q1 := hm.vars
  have q2 := hm.cons
  have q3 := hm.goal
  have hs1 := h.lVars (l := m.vars) (room := 40) (by omega) (by omega) (by omega)
  have hs2 := hs1.lCons (l := m.cons) (room := 40) (by omega) hm.con (by omega) (by omega)
  exact (hs2.lTerms (l := m.goal) (room := 40) (by omega) (by omega) (by omega)).mono (by omega)
theorem ModelS (s : RmS) (m : Model) (n : Nat) (hm : ModLe m) (hs0 : RmLe s n) (hn : n + 401000000 ≤ 1000000000000) :
    DC Tryz.prog zbl.id [.ptr 0 1 0 0, .agg m.cells] (Rm s) (fun r H => (∀ g, r.ren g = r) ∧ ∃ s', (r = .agg m.cells ∧ s' = s.lModel m) ∧ H = Rm s') := by
  refine DC.trim (Q := fun r H => r = .agg m.cells ∧ ∃ E, H = Rm (s.lModel m) ++ E) ?_ ?_
  rotate_left
  · rintro r H ⟨rfl, E, rfl⟩
    exact ⟨11, by simp, by rw [zj5]; simp, fun g => by rw [V.ren, zna], _, ⟨rfl, rfl⟩, by simp⟩
  refine DC.of zbl.ok (by simp) ?_
  unfold zbl.ir
  have q1 := hm.vars
  have q2 := hm.cons
  have q3 := hm.goal
  have hs1 := hs0.lVars (l := m.vars) (room := 40) (by omega) (by omega) (by omega)
  have hs2 := hs1.lCons (l := m.cons) (room := 40) (by omega) hm.con (by omega) (by omega)
  obtain ⟨Z, hZ⟩ : ∃ Z, Z = O.mem false [] [[nilS, nilS, .bool false, nilS]] := ⟨_, rfl⟩
  have hcl : m.cells.length = 4 := rfl
  refine zac (At [(0, .ptr 0 1 0 0), (3, .ptr 11 1 0 0), (4, .ptr 12 1 0 0)] (Rm s ++ [.mem false [] [m.cells], Z])) (by simp -dsimp [At, hZ, hcl]) ?_
  try clear h
  rintro ⟨sl, hp, bs⟩ ⟨rfl, h⟩
  simp only [zaa, zab, zad] at h
  refine zac (At [(0, .ptr 0 1 0 0), (3, .ptr 11 1 0 0), (4, .ptr 12 1 0 0)] (Rm (s.lVars m.vars 40) ++ [.mem false [] [m.cells], Z])) ?_ ?_
  · simp -dsimp [h, hcl, Model.cells]
    refine gcallR (VarsS s m.vars n (by omega) hs0 (by omega)) rfl ?_ ?_ (by simp) ?_
    · simp -dsimp [h, hcl, V.idsL, V.ids, addAll, Model.cells, vTerms, vVars, vCons]
    · simp -dsimp [h, hcl, V.renL, V.ren, idx, Model.cells, vTerms, vVars, vCons]
    · rintro r s' ⟨rfl, rfl⟩
      simp -dsimp [h, hcl, At, Model.cells, vTerms, vVars, vCons]
      try rfl
  try clear h
  rintro ⟨sl, hp, bs⟩ ⟨rfl, h⟩
  simp only [zaa, zab, zad] at h
  refine zac (At [(0, .ptr 0 1 0 0), (3, .ptr 11 1 0 0), (4, .ptr 12 1 0 0)] (Rm ((s.lVars m.vars 40).lCons m.cons 40) ++ [.mem false [] [m.cells], Z])) ?_ ?_
  · simp -dsimp [h, hcl, Model.cells]
    refine gcallR (ConsS _ m.cons (n + 1) q2 hm.con hs1 (by omega)) rfl ?_ ?_ (by simp) ?_
    · simp -dsimp [h, hcl, V.idsL, V.ids, addAll, Model.cells, vTerms, vVars, vCons]
    · simp -dsimp [h, hcl, V.renL, V.ren, idx, Model.cells, vTerms, vVars, vCons]
    · rintro r s' ⟨rfl, rfl⟩
      simp -dsimp [h, hcl, At, Model.cells, vTerms, vVars, vCons]
      try rfl
  try clear h
  rintro ⟨sl, hp, bs⟩ ⟨rfl, h⟩
  simp only [zaa, zab, zad] at h
  refine zac (At [(3, .ptr 11 1 0 0), (4, .ptr 12 1 0 0)] (Rm (s.lModel m) ++ [.mem false [] [m.cells], Z])) ?_ ?_
  · simp -dsimp [h, hcl, Model.cells]
    refine gcallR (TermsS _ m.goal (n + 1 + m.cons.length * 20004 + 1) (by omega) hs2 (by omega)) rfl ?_ ?_ (by simp) ?_
    · simp -dsimp [h, hcl, V.idsL, V.ids, addAll, Model.cells, vTerms, vVars, vCons]
    · simp -dsimp [h, hcl, V.renL, V.ren, idx, Model.cells, vTerms, vVars, vCons]
    · rintro r s' ⟨rfl, rfl⟩
      simp -dsimp [h, hcl, At, Model.cells, vTerms, vVars, vCons]
      try rfl
  try clear h
  rintro ⟨sl, hp, bs⟩ ⟨rfl, h⟩
  simp only [zaa, zab, zad] at h
  simp -dsimp [h, hcl, At, hZ, zbl.rs]
  try rfl
end Go.Abs.G

namespace Go.Abs.G
open Go.Proofs
theorem zgO (s : RmS) (hs : RmOk s) :
    DC Tryz.prog zaz.id [.ptr 0 1 0 0] (Rm s) (fun r H => r = .bool true ∧ H = Rm s) := by
  refine DC.trim (Q := fun r H => r = .bool true ∧ ∃ E, H = Rm s ++ E) ?_ ?_
  rotate_left
  · rintro r H ⟨rfl, E, rfl⟩
    exact ⟨11, by simp, by simp [V.ids, V.bool], rfl, by simp⟩
  refine DC.of zaz.ok (by simp) ?_
  unfold zaz.ir
  obtain ⟨R, hR⟩ : ∃ R, R = O.mem false [1, 2, 3, 4, 5, 6, 7, 8, 9, 10] [rmRow s.i.1.length s.t.1.length s.v.1.length s.l.1.length s.c.1.length] := ⟨_, rfl⟩
  obtain ⟨x1, hx1⟩ : ∃ x : O, x = (O.mem false [] (s.i.1.map fun f => [.view 1 f])) := ⟨_, rfl⟩
  have rx1 : x1.refs = [] := by rw [hx1]; rfl
  obtain ⟨x2, hx2⟩ : ∃ x : O, x = (O.mem false [] (ri s.i.2)) := ⟨_, rfl⟩
  have rx2 : x2.refs = [] := by rw [hx2]; rfl
  obtain ⟨x3, hx3⟩ : ∃ x : O, x = (O.mem false [] (s.t.1.map fun f => [.view 2 f])) := ⟨_, rfl⟩
  have rx3 : x3.refs = [] := by rw [hx3]; rfl
  obtain ⟨x4, hx4⟩ : ∃ x : O, x = (O.mem false [] (ri s.t.2)) := ⟨_, rfl⟩
  have rx4 : x4.refs = [] := by rw [hx4]; rfl
  obtain ⟨x5, hx5⟩ : ∃ x : O, x = (O.mem false [] (s.v.1.map fun f => [.view 3 f])) := ⟨_, rfl⟩
  have rx5 : x5.refs = [] := by rw [hx5]; rfl
  obtain ⟨x6, hx6⟩ : ∃ x : O, x = (O.mem false [] (ri s.v.2)) := ⟨_, rfl⟩
  have rx6 : x6.refs = [] := by rw [hx6]; rfl
  obtain ⟨x7, hx7⟩ : ∃ x : O, x = (O.mem false [] (s.l.1.map fun f => [.view 1 f])) := ⟨_, rfl⟩
  have rx7 : x7.refs = [] := by rw [hx7]; rfl
  obtain ⟨x8, hx8⟩ : ∃ x : O, x = (O.mem false [] (ri s.l.2)) := ⟨_, rfl⟩
  have rx8 : x8.refs = [] := by rw [hx8]; rfl
  obtain ⟨x9, hx9⟩ : ∃ x : O, x = (O.mem false [] (s.c.1.map fun f => [.view 10 f])) := ⟨_, rfl⟩
  have rx9 : x9.refs = [] := by rw [hx9]; rfl
  obtain ⟨x10, hx10⟩ : ∃ x : O, x = (O.mem false [] (ri s.c.2)) := ⟨_, rfl⟩
  have rx10 : x10.refs = [] := by rw [hx10]; rfl
  have hRm : Rm s = [R, x1, x2, x3, x4, x5, x6, x7, x8, x9, x10] := by rw [hR, hx1, hx2, hx3, hx4, hx5, hx6, hx7, hx8, hx9, hx10]; rfl
  rw [hRm]
  obtain ⟨hn, hm, hg⟩ := hs.i
  refine zac (At [(0, .ptr 0 1 0 0)] [R, x1, x2, x3, x4, x5, x6, x7, x8, x9, x10]) (by simp -dsimp [At]) ?_
  try clear h
  rintro ⟨sl, hp, bs⟩ ⟨rfl, h⟩
  simp only [zaa, zab, zad] at h
  refine zac (At [(0, .ptr 0 1 0 0)] [R, x1, x2, x3, x4, x5, x6, x7, x8, x9, x10]) ?_ ?_
  · refine zac (At [(0, .ptr 0 1 0 0), (3, V.i 0)] [R, x1, x2, x3, x4, x5, x6, x7, x8, x9, x10]) (by simp -dsimp [h, At]) ?_
    try clear h
    rintro ⟨sl, hp, bs⟩ ⟨rfl, h⟩
    simp only [zaa, zab, zad] at h
    refine zag (zbY 11 (by simp) s.i.1.length (fun i st => At [(0, .ptr 0 1 0 0), (3, V.i i)] [R, x1, x2, x3, x4, x5, x6, x7, x8, x9, x10] st) ⟨rfl, by simpa using h⟩ ?_)
    clear h
    rintro i ⟨sl, hp, bs⟩ hi ⟨rfl, h⟩
    simp only [zaa, zab] at h
    unfold zaz.b0
    by_cases hil : i < s.i.1.length
    · have hil' : (i : Int) < s.i.1.length := by omega
      have hw : IntKind.i64.wrap ((i : Int) + 1) = ((i + 1 : Nat) : Int) := by rw [wrap64] <;> omega
      obtain ⟨full, hfull⟩ : ∃ full, full = s.i.1[i] := ⟨_, rfl⟩
      obtain ⟨p, hp1, hp2, hp3, hp4⟩ := hg i full (by rw [hfull]; exact List.getElem?_eq_getElem hil)
      have hil2 : i < s.i.2.length := by omega
      have hpi : s.i.2[i] = (p : Int) := by rw [List.getElem?_eq_getElem hil2] at hp1; exact Option.some.inj hp1
      refine zac (At [(0, .ptr 0 1 0 0), (3, V.i i)] [R, x1, x2, x3, x4, x5, x6, x7, x8, x9, x10]) (by simp -dsimp [h, At, hil, hil', hR, rmRow, hx1]) ?_
      try clear h
      rintro ⟨sl, hp, bs⟩ ⟨rfl, h⟩
      simp only [zaa, zab, zad] at h
      refine zac (At [(0, .ptr 0 1 0 0), (3, V.i i)] [R, x1, x2, x3, x4, x5, x6, x7, x8, x9, x10]) ?_ ?_
      · refine zag ?_
        refine zac (At [(0, .ptr 0 1 0 0), (3, V.i i), (4, V.i p)] [R, x1, x2, x3, x4, x5, x6, x7, x8, x9, x10]) (by simp -dsimp [h, At, hil, hil2, hn, hpi, hR, rmRow, hx2, ri]) ?_
        try clear h
        rintro ⟨sl, hp, bs⟩ ⟨rfl, h⟩
        simp only [zaa, zab, zad] at h
        refine zac (At [(0, .ptr 0 1 0 0), (3, V.i i), (4, V.i p), (5, V.i p)] [R, x1, x2, x3, x4, x5, x6, x7, x8, x9, x10]) (by simp -dsimp [h, At]) ?_
        try clear h
        rintro ⟨sl, hp, bs⟩ ⟨rfl, h⟩
        simp only [zaa, zab, zad] at h
        refine zag (zbY 11 (by simp) (full.length - p) (fun k st => At [(0, .ptr 0 1 0 0), (3, V.i i), (4, V.i p), (5, V.i (p + k : Nat))] [R, x1, x2, x3, x4, x5, x6, x7, x8, x9, x10] st) ⟨rfl, by simpa using h⟩ ?_)
        clear h
        rintro k ⟨sl, hp, bs⟩ hk ⟨rfl, h⟩
        simp only [zaa, zab] at h
        unfold zaz.b1
        obtain ⟨q, hq⟩ : ∃ q, q = p + k := ⟨_, rfl⟩
        rw [← hq] at h
        by_cases hkl : k < full.length - p
        · have hkf : q < full.length := by omega
          have hkf' : (q : Int) < full.length := by omega
          have hfk : full[q] = mkInts k := by
            have e : q - p = k := by omega
            have := hp4 q (by omega) hkf
            rwa [e] at this
          have hl := zdn k (by omega)
          have hwk : IntKind.i64.wrap ((q : Int) + 1) = (p : Int) + ((k : Int) + 1) := by rw [wrap64] <;> omega
          have hws : IntKind.i64.wrap ((q : Int) - (p : Int)) = (k : Int) := by rw [wrap64] <;> omega
          simp -dsimp [h, hil, hil', hR, rmRow, hx1, ← hfull, hkf, hkf', hfk, mkInts, hws, vInts, nilS]
          refine gcall (hl) (by simp -dsimp [h, hil, hil', hR, rmRow, hx1, ← hfull, hkf, hkf', hfk, mkInts, hws, vInts, nilS, hwk, At, hkl, rx1, rx2, rx3, rx4, rx5, rx6, rx7, rx8, rx9, rx10]) (by simp -dsimp [h, hil, hil', hR, rmRow, hx1, ← hfull, hkf, hkf', hfk, mkInts, hws, vInts, nilS, hwk, At, hkl, rx1, rx2, rx3, rx4, rx5, rx6, rx7, rx8, rx9, rx10]) ?_
          simp -dsimp [h, hil, hil', hR, rmRow, hx1, ← hfull, hkf, hkf', hfk, mkInts, hws, vInts, nilS, hwk, At, hkl, rx1, rx2, rx3, rx4, rx5, rx6, rx7, rx8, rx9, rx10]
          done
        · have hkf' : ¬ (q : Int) < full.length := by omega
          have hkf : ¬ q < full.length := by omega
          simp -dsimp [h, hil, hil', hR, rmRow, hx1, ← hfull, hkf', hkf, At]
      try clear h
      rintro ⟨sl, hp, bs⟩ ⟨rfl, h⟩
      simp only [zaa, zab, zad] at h
      simp -dsimp [h, At, hw, hil, hR, rmRow, rx1, rx2, rx3, rx4, rx5, rx6, rx7, rx8, rx9, rx10]
    · have hil' : ¬ (i : Int) < s.i.1.length := by omega
      simp -dsimp [h, hil, hil', hR, rmRow, hx1, At]
  try clear h
  rintro ⟨sl, hp, bs⟩ ⟨rfl, h⟩
  simp only [zaa, zab, zad] at h
  simp -dsimp [h, zaz.rs]
  try exact ⟨[], by rw [List.append_nil, hRm]⟩
theorem zf1 (s : RmS) (hs : RmOk s) :
    DC Tryz.prog zas.id [.ptr 0 1 0 0] (Rm s) (fun r H => r = .bool true ∧ H = Rm s) := by
  refine DC.trim (Q := fun r H => r = .bool true ∧ ∃ E, H = Rm s ++ E) ?_ ?_
  rotate_left
  · rintro r H ⟨rfl, E, rfl⟩
    exact ⟨11, by simp, by simp [V.ids, V.bool], rfl, by simp⟩
  refine DC.of zas.ok (by simp) ?_
  unfold zas.ir
  obtain ⟨R, hR⟩ : ∃ R, R = O.mem false [1, 2, 3, 4, 5, 6, 7, 8, 9, 10] [rmRow s.i.1.length s.t.1.length s.v.1.length s.l.1.length s.c.1.length] := ⟨_, rfl⟩
  obtain ⟨x1, hx1⟩ : ∃ x : O, x = (O.mem false [] (s.i.1.map fun f => [.view 1 f])) := ⟨_, rfl⟩
  have rx1 : x1.refs = [] := by rw [hx1]; rfl
  obtain ⟨x2, hx2⟩ : ∃ x : O, x = (O.mem false [] (ri s.i.2)) := ⟨_, rfl⟩
  have rx2 : x2.refs = [] := by rw [hx2]; rfl
  obtain ⟨x3, hx3⟩ : ∃ x : O, x = (O.mem false [] (s.t.1.map fun f => [.view 2 f])) := ⟨_, rfl⟩
  have rx3 : x3.refs = [] := by rw [hx3]; rfl
  obtain ⟨x4, hx4⟩ : ∃ x : O, x = (O.mem false [] (ri s.t.2)) := ⟨_, rfl⟩
  have rx4 : x4.refs = [] := by rw [hx4]; rfl
  obtain ⟨x5, hx5⟩ : ∃ x : O, x = (O.mem false [] (s.v.1.map fun f => [.view 3 f])) := ⟨_, rfl⟩
  have rx5 : x5.refs = [] := by rw [hx5]; rfl
  obtain ⟨x6, hx6⟩ : ∃ x : O, x = (O.mem false [] (ri s.v.2)) := ⟨_, rfl⟩
  have rx6 : x6.refs = [] := by rw [hx6]; rfl
  obtain ⟨x7, hx7⟩ : ∃ x : O, x = (O.mem false [] (s.l.1.map fun f => [.view 1 f])) := ⟨_, rfl⟩
  have rx7 : x7.refs = [] := by rw [hx7]; rfl
  obtain ⟨x8, hx8⟩ : ∃ x : O, x = (O.mem false [] (ri s.l.2)) := ⟨_, rfl⟩
  have rx8 : x8.refs = [] := by rw [hx8]; rfl
  obtain ⟨x9, hx9⟩ : ∃ x : O, x = (O.mem false [] (s.c.1.map fun f => [.view 10 f])) := ⟨_, rfl⟩
  have rx9 : x9.refs = [] := by rw [hx9]; rfl
  obtain ⟨x10, hx10⟩ : ∃ x : O, x = (O.mem false [] (ri s.c.2)) := ⟨_, rfl⟩
  have rx10 : x10.refs = [] := by rw [hx10]; rfl
  have hRm : Rm s = [R, x1, x2, x3, x4, x5, x6, x7, x8, x9, x10] := by rw [hR, hx1, hx2, hx3, hx4, hx5, hx6, hx7, hx8, hx9, hx10]; rfl
  rw [hRm]
  obtain ⟨hn, hm, hg⟩ := hs.t
  refine zac (At [(0, .ptr 0 1 0 0)] [R, x1, x2, x3, x4, x5, x6, x7, x8, x9, x10]) (by simp -dsimp [At]) ?_
  try clear h
  rintro ⟨sl, hp, bs⟩ ⟨rfl, h⟩
  simp only [zaa, zab, zad] at h
  refine zac (At [(0, .ptr 0 1 0 0)] [R, x1, x2, x3, x4, x5, x6, x7, x8, x9, x10]) ?_ ?_
  · refine zac (At [(0, .ptr 0 1 0 0), (3, V.i 0)] [R, x1, x2, x3, x4, x5, x6, x7, x8, x9, x10]) (by simp -dsimp [h, At]) ?_
    try clear h
    rintro ⟨sl, hp, bs⟩ ⟨rfl, h⟩
    simp only [zaa, zab, zad] at h
    refine zag (zbY 11 (by simp) s.t.1.length (fun i st => At [(0, .ptr 0 1 0 0), (3, V.i i)] [R, x1, x2, x3, x4, x5, x6, x7, x8, x9, x10] st) ⟨rfl, by simpa using h⟩ ?_)
    clear h
    rintro i ⟨sl, hp, bs⟩ hi ⟨rfl, h⟩
    simp only [zaa, zab] at h
    unfold zas.b0
    by_cases hil : i < s.t.1.length
    · have hil' : (i : Int) < s.t.1.length := by omega
      have hw : IntKind.i64.wrap ((i : Int) + 1) = ((i + 1 : Nat) : Int) := by rw [wrap64] <;> omega
      obtain ⟨full, hfull⟩ : ∃ full, full = s.t.1[i] := ⟨_, rfl⟩
      obtain ⟨p, hp1, hp2, hp3, hp4⟩ := hg i full (by rw [hfull]; exact List.getElem?_eq_getElem hil)
      have hil2 : i < s.t.2.length := by omega
      have hpi : s.t.2[i] = (p : Int) := by rw [List.getElem?_eq_getElem hil2] at hp1; exact Option.some.inj hp1
      refine zac (At [(0, .ptr 0 1 0 0), (3, V.i i)] [R, x1, x2, x3, x4, x5, x6, x7, x8, x9, x10]) (by simp -dsimp [h, At, hil, hil', hR, rmRow, hx3]) ?_
      try clear h
      rintro ⟨sl, hp, bs⟩ ⟨rfl, h⟩
      simp only [zaa, zab, zad] at h
      refine zac (At [(0, .ptr 0 1 0 0), (3, V.i i)] [R, x1, x2, x3, x4, x5, x6, x7, x8, x9, x10]) ?_ ?_
      · refine zag ?_
        refine zac (At [(0, .ptr 0 1 0 0), (3, V.i i), (4, V.i p)] [R, x1, x2, x3, x4, x5, x6, x7, x8, x9, x10]) (by simp -dsimp [h, At, hil, hil2, hn, hpi, hR, rmRow, hx4, ri]) ?_
        try clear h
        rintro ⟨sl, hp, bs⟩ ⟨rfl, h⟩
        simp only [zaa, zab, zad] at h
        refine zac (At [(0, .ptr 0 1 0 0), (3, V.i i), (4, V.i p), (5, V.i p)] [R, x1, x2, x3, x4, x5, x6, x7, x8, x9, x10]) (by simp -dsimp [h, At]) ?_
        try clear h
        rintro ⟨sl, hp, bs⟩ ⟨rfl, h⟩
        simp only [zaa, zab, zad] at h
        refine zag (zbY 11 (by simp) (full.length - p) (fun k st => At [(0, .ptr 0 1 0 0), (3, V.i i), (4, V.i p), (5, V.i (p + k : Nat))] [R, x1, x2, x3, x4, x5, x6, x7, x8, x9, x10] st) ⟨rfl, by simpa using h⟩ ?_)
        clear h
        rintro k ⟨sl, hp, bs⟩ hk ⟨rfl, h⟩
        simp only [zaa, zab] at h
        unfold zas.b1
        obtain ⟨q, hq⟩ : ∃ q, q = p + k := ⟨_, rfl⟩
        rw [← hq] at h
        by_cases hkl : k < full.length - p
        · have hkf : q < full.length := by omega
          have hkf' : (q : Int) < full.length := by omega
          have hfk : full[q] = mkTerms k := by
            have e : q - p = k := by omega
            have := hp4 q (by omega) hkf
            rwa [e] at this
          have hl := zdn k (by omega)
          have hwk : IntKind.i64.wrap ((q : Int) + 1) = (p : Int) + ((k : Int) + 1) := by rw [wrap64] <;> omega
          have hws : IntKind.i64.wrap ((q : Int) - (p : Int)) = (k : Int) := by rw [wrap64] <;> omega
          simp -dsimp [h, hil, hil', hR, rmRow, hx3, ← hfull, hkf, hkf', hfk, mkTerms, hws, vInts, nilS]
          refine gcall (hl) (by simp -dsimp [h, hil, hil', hR, rmRow, hx3, ← hfull, hkf, hkf', hfk, mkTerms, hws, vInts, nilS, hwk, At, hkl, rx1, rx2, rx3, rx4, rx5, rx6, rx7, rx8, rx9, rx10]) (by simp -dsimp [h, hil, hil', hR, rmRow, hx3, ← hfull, hkf, hkf', hfk, mkTerms, hws, vInts, nilS, hwk, At, hkl, rx1, rx2, rx3, rx4, rx5, rx6, rx7, rx8, rx9, rx10]) ?_
          simp -dsimp [h, hil, hil', hR, rmRow, hx3, ← hfull, hkf, hkf', hfk, mkTerms, hws, vInts, nilS, hwk, At, hkl, rx1, rx2, rx3, rx4, rx5, rx6, rx7, rx8, rx9, rx10]
          done
        · have hkf' : ¬ (q : Int) < full.length := by omega
          have hkf : ¬ q < full.length := by omega
          simp -dsimp [h, hil, hil', hR, rmRow, hx3, ← hfull, hkf', hkf, At]
      try clear h
      rintro ⟨sl, hp, bs⟩ ⟨rfl, h⟩
      simp only [zaa, zab, zad] at h
      simp -dsimp [h, At, hw, hil, hR, rmRow, rx1, rx2, rx3, rx4, rx5, rx6, rx7, rx8, rx9, rx10]
    · have hil' : ¬ (i : Int) < s.t.1.length := by omega
      simp -dsimp [h, hil, hil', hR, rmRow, hx3, At]
  try clear h
  rintro ⟨sl, hp, bs⟩ ⟨rfl, h⟩
  simp only [zaa, zab, zad] at h
  simp -dsimp [h, zas.rs]
  try exact ⟨[], by rw [List.append_nil, hRm]⟩
theorem zgQ (s : RmS) (hs : RmOk s) :
    DC Tryz.prog zaA.id [.ptr 0 1 0 0] (Rm s) (fun r H => r = .bool true ∧ H = Rm s) := by
  refine DC.trim (Q := fun r H => r = .bool true ∧ ∃ E, H = Rm s ++ E) ?_ ?_
  rotate_left
  · rintro r H ⟨rfl, E, rfl⟩
    exact ⟨11, by simp, by simp [V.ids, V.bool], rfl, by simp⟩
  refine DC.of zaA.ok (by simp) ?_
  unfold zaA.ir
  obtain ⟨R, hR⟩ : ∃ R, R = O.mem false [1, 2, 3, 4, 5, 6, 7, 8, 9, 10] [rmRow s.i.1.length s.t.1.length s.v.1.length s.l.1.length s.c.1.length] := ⟨_, rfl⟩
  obtain ⟨x1, hx1⟩ : ∃ x : O, x = (O.mem false [] (s.i.1.map fun f => [.view 1 f])) := ⟨_, rfl⟩
  have rx1 : x1.refs = [] := by rw [hx1]; rfl
  obtain ⟨x2, hx2⟩ : ∃ x : O, x = (O.mem false [] (ri s.i.2)) := ⟨_, rfl⟩
  have rx2 : x2.refs = [] := by rw [hx2]; rfl
  obtain ⟨x3, hx3⟩ : ∃ x : O, x = (O.mem false [] (s.t.1.map fun f => [.view 2 f])) := ⟨_, rfl⟩
  have rx3 : x3.refs = [] := by rw [hx3]; rfl
  obtain ⟨x4, hx4⟩ : ∃ x : O, x = (O.mem false [] (ri s.t.2)) := ⟨_, rfl⟩
  have rx4 : x4.refs = [] := by rw [hx4]; rfl
  obtain ⟨x5, hx5⟩ : ∃ x : O, x = (O.mem false [] (s.v.1.map fun f => [.view 3 f])) := ⟨_, rfl⟩
  have rx5 : x5.refs = [] := by rw [hx5]; rfl
  obtain ⟨x6, hx6⟩ : ∃ x : O, x = (O.mem false [] (ri s.v.2)) := ⟨_, rfl⟩
  have rx6 : x6.refs = [] := by rw [hx6]; rfl
  obtain ⟨x7, hx7⟩ : ∃ x : O, x = (O.mem false [] (s.l.1.map fun f => [.view 1 f])) := ⟨_, rfl⟩
  have rx7 : x7.refs = [] := by rw [hx7]; rfl
  obtain ⟨x8, hx8⟩ : ∃ x : O, x = (O.mem false [] (ri s.l.2)) := ⟨_, rfl⟩
  have rx8 : x8.refs = [] := by rw [hx8]; rfl
  obtain ⟨x9, hx9⟩ : ∃ x : O, x = (O.mem false [] (s.c.1.map fun f => [.view 10 f])) := ⟨_, rfl⟩
  have rx9 : x9.refs = [] := by rw [hx9]; rfl
  obtain ⟨x10, hx10⟩ : ∃ x : O, x = (O.mem false [] (ri s.c.2)) := ⟨_, rfl⟩
  have rx10 : x10.refs = [] := by rw [hx10]; rfl
  have hRm : Rm s = [R, x1, x2, x3, x4, x5, x6, x7, x8, x9, x10] := by rw [hR, hx1, hx2, hx3, hx4, hx5, hx6, hx7, hx8, hx9, hx10]; rfl
  rw [hRm]
  obtain ⟨hn, hm, hg⟩ := hs.v
  refine zac (At [(0, .ptr 0 1 0 0)] [R, x1, x2, x3, x4, x5, x6, x7, x8, x9, x10]) (by simp -dsimp [At]) ?_
  try clear h
  rintro ⟨sl, hp, bs⟩ ⟨rfl, h⟩
  simp only [zaa, zab, zad] at h
  refine zac (At [(0, .ptr 0 1 0 0)] [R, x1, x2, x3, x4, x5, x6, x7, x8, x9, x10]) ?_ ?_
  · refine zac (At [(0, .ptr 0 1 0 0), (3, V.i 0)] [R, x1, x2, x3, x4, x5, x6, x7, x8, x9, x10]) (by simp -dsimp [h, At]) ?_
    try clear h
    rintro ⟨sl, hp, bs⟩ ⟨rfl, h⟩
    simp only [zaa, zab, zad] at h
    refine zag (zbY 11 (by simp) s.v.1.length (fun i st => At [(0, .ptr 0 1 0 0), (3, V.i i)] [R, x1, x2, x3, x4, x5, x6, x7, x8, x9, x10] st) ⟨rfl, by simpa using h⟩ ?_)
    clear h
    rintro i ⟨sl, hp, bs⟩ hi ⟨rfl, h⟩
    simp only [zaa, zab] at h
    unfold zaA.b0
    by_cases hil : i < s.v.1.length
    · have hil' : (i : Int) < s.v.1.length := by omega
      have hw : IntKind.i64.wrap ((i : Int) + 1) = ((i + 1 : Nat) : Int) := by rw [wrap64] <;> omega
      obtain ⟨full, hfull⟩ : ∃ full, full = s.v.1[i] := ⟨_, rfl⟩
      obtain ⟨p, hp1, hp2, hp3, hp4⟩ := hg i full (by rw [hfull]; exact List.getElem?_eq_getElem hil)
      have hil2 : i < s.v.2.length := by omega
      have hpi : s.v.2[i] = (p : Int) := by rw [List.getElem?_eq_getElem hil2] at hp1; exact Option.some.inj hp1
      refine zac (At [(0, .ptr 0 1 0 0), (3, V.i i)] [R, x1, x2, x3, x4, x5, x6, x7, x8, x9, x10]) (by simp -dsimp [h, At, hil, hil', hR, rmRow, hx5]) ?_
      try clear h
      rintro ⟨sl, hp, bs⟩ ⟨rfl, h⟩
      simp only [zaa, zab, zad] at h
      refine zac (At [(0, .ptr 0 1 0 0), (3, V.i i)] [R, x1, x2, x3, x4, x5, x6, x7, x8, x9, x10]) ?_ ?_
      · refine zag ?_
        refine zac (At [(0, .ptr 0 1 0 0), (3, V.i i), (4, V.i p)] [R, x1, x2, x3, x4, x5, x6, x7, x8, x9, x10]) (by simp -dsimp [h, At, hil, hil2, hn, hpi, hR, rmRow, hx6, ri]) ?_
        try clear h
        rintro ⟨sl, hp, bs⟩ ⟨rfl, h⟩
        simp only [zaa, zab, zad] at h
        refine zac (At [(0, .ptr 0 1 0 0), (3, V.i i), (4, V.i p), (5, V.i p)] [R, x1, x2, x3, x4, x5, x6, x7, x8, x9, x10]) (by simp -dsimp [h, At]) ?_
        try clear h
        rintro ⟨sl, hp, bs⟩ ⟨rfl, h⟩
        simp only [zaa, zab, zad] at h
        refine zag (zbY 11 (by simp) (full.length - p) (fun k st => At [(0, .ptr 0 1 0 0), (3, V.i i), (4, V.i p), (5, V.i (p + k : Nat))] [R, x1, x2, x3, x4, x5, x6, x7, x8, x9, x10] st) ⟨rfl, by simpa using h⟩ ?_)
        clear h
        rintro k ⟨sl, hp, bs⟩ hk ⟨rfl, h⟩
        simp only [zaa, zab] at h
        unfold zaA.b1
        obtain ⟨q, hq⟩ : ∃ q, q = p + k := ⟨_, rfl⟩
        rw [← hq] at h
        by_cases hkl : k < full.length - p
        · have hkf : q < full.length := by omega
          have hkf' : (q : Int) < full.length := by omega
          have hfk : full[q] = mkVars k := by
            have e : q - p = k := by omega
            have := hp4 q (by omega) hkf
            rwa [e] at this
          have hl := zdn k (by omega)
          have hwk : IntKind.i64.wrap ((q : Int) + 1) = (p : Int) + ((k : Int) + 1) := by rw [wrap64] <;> omega
          have hws : IntKind.i64.wrap ((q : Int) - (p : Int)) = (k : Int) := by rw [wrap64] <;> omega
          simp -dsimp [h, hil, hil', hR, rmRow, hx5, ← hfull, hkf, hkf', hfk, mkVars, hws, vInts, nilS]
          refine gcall (hl) (by simp -dsimp [h, hil, hil', hR, rmRow, hx5, ← hfull, hkf, hkf', hfk, mkVars, hws, vInts, nilS, hwk, At, hkl, rx1, rx2, rx3, rx4, rx5, rx6, rx7, rx8, rx9, rx10]) (by simp -dsimp [h, hil, hil', hR, rmRow, hx5, ← hfull, hkf, hkf', hfk, mkVars, hws, vInts, nilS, hwk, At, hkl, rx1, rx2, rx3, rx4, rx5, rx6, rx7, rx8, rx9, rx10]) ?_
          simp -dsimp [h, hil, hil', hR, rmRow, hx5, ← hfull, hkf, hkf', hfk, mkVars, hws, vInts, nilS, hwk, At, hkl, rx1, rx2, rx3, rx4, rx5, rx6, rx7, rx8, rx9, rx10]
          done
        · have hkf' : ¬ (q : Int) < full.length := by omega
          have hkf : ¬ q < full.length := by omega
          simp -dsimp [h, hil, hil', hR, rmRow, hx5, ← hfull, hkf', hkf, At]
      try clear h
      rintro ⟨sl, hp, bs⟩ ⟨rfl, h⟩
      simp only [zaa, zab, zad] at h
      simp -dsimp [h, At, hw, hil, hR, rmRow, rx1, rx2, rx3, rx4, rx5, rx6, rx7, rx8, rx9, rx10]
    · have hil' : ¬ (i : Int) < s.v.1.length := by omega
      simp -dsimp [h, hil, hil', hR, rmRow, hx5, At]
  try clear h
  rintro ⟨sl, hp, bs⟩ ⟨rfl, h⟩
  simp only [zaa, zab, zad] at h
  simp -dsimp [h, zaA.rs]
  try exact ⟨[], by rw [List.append_nil, hRm]⟩
theorem zfY (s : RmS) (hs : RmOk s) :
    DC Tryz.prog zar.id [.ptr 0 1 0 0] (Rm s) (fun r H => r = .bool true ∧ H = Rm s) := by
  refine DC.trim (Q := fun r H => r = .bool true ∧ ∃ E, H = Rm s ++ E) ?_ ?_
  rotate_left
  · rintro r H ⟨rfl, E, rfl⟩
    exact ⟨11, by simp, by simp [V.ids, V.bool], rfl, by simp⟩
  refine DC.of zar.ok (by simp) ?_
  unfold zar.ir
  obtain ⟨R, hR⟩ : ∃ R, R = O.mem false [1, 2, 3, 4, 5, 6, 7, 8, 9, 10] [rmRow s.i.1.length s.t.1.length s.v.1.length s.l.1.length s.c.1.length] := ⟨_, rfl⟩
  obtain ⟨x1, hx1⟩ : ∃ x : O, x = (O.mem false [] (s.i.1.map fun f => [.view 1 f])) := ⟨_, rfl⟩
  have rx1 : x1.refs = [] := by rw [hx1]; rfl
  obtain ⟨x2, hx2⟩ : ∃ x : O, x = (O.mem false [] (ri s.i.2)) := ⟨_, rfl⟩
  have rx2 : x2.refs = [] := by rw [hx2]; rfl
  obtain ⟨x3, hx3⟩ : ∃ x : O, x = (O.mem false [] (s.t.1.map fun f => [.view 2 f])) := ⟨_, rfl⟩
  have rx3 : x3.refs = [] := by rw [hx3]; rfl
  obtain ⟨x4, hx4⟩ : ∃ x : O, x = (O.mem false [] (ri s.t.2)) := ⟨_, rfl⟩
  have rx4 : x4.refs = [] := by rw [hx4]; rfl
  obtain ⟨x5, hx5⟩ : ∃ x : O, x = (O.mem false [] (s.v.1.map fun f => [.view 3 f])) := ⟨_, rfl⟩
  have rx5 : x5.refs = [] := by rw [hx5]; rfl
  obtain ⟨x6, hx6⟩ : ∃ x : O, x = (O.mem false [] (ri s.v.2)) := ⟨_, rfl⟩
  have rx6 : x6.refs = [] := by rw [hx6]; rfl
  obtain ⟨x7, hx7⟩ : ∃ x : O, x = (O.mem false [] (s.l.1.map fun f => [.view 1 f])) := ⟨_, rfl⟩
  have rx7 : x7.refs = [] := by rw [hx7]; rfl
  obtain ⟨x8, hx8⟩ : ∃ x : O, x = (O.mem false [] (ri s.l.2)) := ⟨_, rfl⟩
  have rx8 : x8.refs = [] := by rw [hx8]; rfl
  obtain ⟨x9, hx9⟩ : ∃ x : O, x = (O.mem false [] (s.c.1.map fun f => [.view 10 f])) := ⟨_, rfl⟩
  have rx9 : x9.refs = [] := by rw [hx9]; rfl
  obtain ⟨x10, hx10⟩ : ∃ x : O, x = (O.mem false [] (ri s.c.2)) := ⟨_, rfl⟩
  have rx10 : x10.refs = [] := by rw [hx10]; rfl
  have hRm : Rm s = [R, x1, x2, x3, x4, x5, x6, x7, x8, x9, x10] := by rw [hR, hx1, hx2, hx3, hx4, hx5, hx6, hx7, hx8, hx9, hx10]; rfl
  rw [hRm]
  obtain ⟨hn, hm, hg⟩ := hs.l
  refine zac (At [(0, .ptr 0 1 0 0)] [R, x1, x2, x3, x4, x5, x6, x7, x8, x9, x10]) (by simp -dsimp [At]) ?_
  try clear h
  rintro ⟨sl, hp, bs⟩ ⟨rfl, h⟩
  simp only [zaa, zab, zad] at h
  refine zac (At [(0, .ptr 0 1 0 0)] [R, x1, x2, x3, x4, x5, x6, x7, x8, x9, x10]) ?_ ?_
  · refine zac (At [(0, .ptr 0 1 0 0), (3, V.i 0)] [R, x1, x2, x3, x4, x5, x6, x7, x8, x9, x10]) (by simp -dsimp [h, At]) ?_
    try clear h
    rintro ⟨sl, hp, bs⟩ ⟨rfl, h⟩
    simp only [zaa, zab, zad] at h
    refine zag (zbY 11 (by simp) s.l.1.length (fun i st => At [(0, .ptr 0 1 0 0), (3, V.i i)] [R, x1, x2, x3, x4, x5, x6, x7, x8, x9, x10] st) ⟨rfl, by simpa using h⟩ ?_)
    clear h
    rintro i ⟨sl, hp, bs⟩ hi ⟨rfl, h⟩
    simp only [zaa, zab] at h
    unfold zar.b0
    by_cases hil : i < s.l.1.length
    · have hil' : (i : Int) < s.l.1.length := by omega
      have hw : IntKind.i64.wrap ((i : Int) + 1) = ((i + 1 : Nat) : Int) := by rw [wrap64] <;> omega
      obtain ⟨full, hfull⟩ : ∃ full, full = s.l.1[i] := ⟨_, rfl⟩
      obtain ⟨p, hp1, hp2, hp3, hp4⟩ := hg i full (by rw [hfull]; exact List.getElem?_eq_getElem hil)
      have hil2 : i < s.l.2.length := by omega
      have hpi : s.l.2[i] = (p : Int) := by rw [List.getElem?_eq_getElem hil2] at hp1; exact Option.some.inj hp1
      refine zac (At [(0, .ptr 0 1 0 0), (3, V.i i)] [R, x1, x2, x3, x4, x5, x6, x7, x8, x9, x10]) (by simp -dsimp [h, At, hil, hil', hR, rmRow, hx7]) ?_
      try clear h
      rintro ⟨sl, hp, bs⟩ ⟨rfl, h⟩
      simp only [zaa, zab, zad] at h
      refine zac (At [(0, .ptr 0 1 0 0), (3, V.i i)] [R, x1, x2, x3, x4, x5, x6, x7, x8, x9, x10]) ?_ ?_
      · refine zag ?_
        refine zac (At [(0, .ptr 0 1 0 0), (3, V.i i), (4, V.i p)] [R, x1, x2, x3, x4, x5, x6, x7, x8, x9, x10]) (by simp -dsimp [h, At, hil, hil2, hn, hpi, hR, rmRow, hx8, ri]) ?_
        try clear h
        rintro ⟨sl, hp, bs⟩ ⟨rfl, h⟩
        simp only [zaa, zab, zad] at h
        refine zac (At [(0, .ptr 0 1 0 0), (3, V.i i), (4, V.i p), (5, V.i p)] [R, x1, x2, x3, x4, x5, x6, x7, x8, x9, x10]) (by simp -dsimp [h, At]) ?_
        try clear h
        rintro ⟨sl, hp, bs⟩ ⟨rfl, h⟩
        simp only [zaa, zab, zad] at h
        refine zag (zbY 11 (by simp) (full.length - p) (fun k st => At [(0, .ptr 0 1 0 0), (3, V.i i), (4, V.i p), (5, V.i (p + k : Nat))] [R, x1, x2, x3, x4, x5, x6, x7, x8, x9, x10] st) ⟨rfl, by simpa using h⟩ ?_)
        clear h
        rintro k ⟨sl, hp, bs⟩ hk ⟨rfl, h⟩
        simp only [zaa, zab] at h
        unfold zar.b1
        obtain ⟨q, hq⟩ : ∃ q, q = p + k := ⟨_, rfl⟩
        rw [← hq] at h
        by_cases hkl : k < full.length - p
        · have hkf : q < full.length := by omega
          have hkf' : (q : Int) < full.length := by omega
          have hfk : full[q] = mkLists k := by
            have e : q - p = k := by omega
            have := hp4 q (by omega) hkf
            rwa [e] at this
          have hl := zdn k (by omega)
          have hwk : IntKind.i64.wrap ((q : Int) + 1) = (p : Int) + ((k : Int) + 1) := by rw [wrap64] <;> omega
          have hws : IntKind.i64.wrap ((q : Int) - (p : Int)) = (k : Int) := by rw [wrap64] <;> omega
          simp -dsimp [h, hil, hil', hR, rmRow, hx7, ← hfull, hkf, hkf', hfk, mkLists, hws, vInts, nilS]
          refine gcall (hl) (by simp -dsimp [h, hil, hil', hR, rmRow, hx7, ← hfull, hkf, hkf', hfk, mkLists, hws, vInts, nilS, hwk, At, hkl, rx1, rx2, rx3, rx4, rx5, rx6, rx7, rx8, rx9, rx10]) (by simp -dsimp [h, hil, hil', hR, rmRow, hx7, ← hfull, hkf, hkf', hfk, mkLists, hws, vInts, nilS, hwk, At, hkl, rx1, rx2, rx3, rx4, rx5, rx6, rx7, rx8, rx9, rx10]) ?_
          simp -dsimp [h, hil, hil', hR, rmRow, hx7, ← hfull, hkf, hkf', hfk, mkLists, hws, vInts, nilS, hwk, At, hkl, rx1, rx2, rx3, rx4, rx5, rx6, rx7, rx8, rx9, rx10]
          done
        · have hkf' : ¬ (q : Int) < full.length := by omega
          have hkf : ¬ q < full.length := by omega
          simp -dsimp [h, hil, hil', hR, rmRow, hx7, ← hfull, hkf', hkf, At]
      try clear h
      rintro ⟨sl, hp, bs⟩ ⟨rfl, h⟩
      simp only [zaa, zab, zad] at h
      simp -dsimp [h, At, hw, hil, hR, rmRow, rx1, rx2, rx3, rx4, rx5, rx6, rx7, rx8, rx9, rx10]
    · have hil' : ¬ (i : Int) < s.l.1.length := by omega
      simp -dsimp [h, hil, hil', hR, rmRow, hx7, At]
  try clear h
  rintro ⟨sl, hp, bs⟩ ⟨rfl, h⟩
  simp only [zaa, zab, zad] at h
  simp -dsimp [h, zar.rs]
  try exact ⟨[], by rw [List.append_nil, hRm]⟩
theorem zgM (s : RmS) (hs : RmOk s) :
    DC Tryz.prog zay.id [.ptr 0 1 0 0] (Rm s) (fun r H => r = .bool true ∧ H = Rm s) := by
  refine DC.trim (Q := fun r H => r = .bool true ∧ ∃ E, H = Rm s ++ E) ?_ ?_
  rotate_left
  · rintro r H ⟨rfl, E, rfl⟩
    exact ⟨11, by simp, by simp [V.ids, V.bool], rfl, by simp⟩
  refine DC.of zay.ok (by simp) ?_
  unfold zay.ir
  obtain ⟨R, hR⟩ : ∃ R, R = O.mem false [1, 2, 3, 4, 5, 6, 7, 8, 9, 10] [rmRow s.i.1.length s.t.1.length s.v.1.length s.l.1.length s.c.1.length] := ⟨_, rfl⟩
  obtain ⟨x1, hx1⟩ : ∃ x : O, x = (O.mem false [] (s.i.1.map fun f => [.view 1 f])) := ⟨_, rfl⟩
  have rx1 : x1.refs = [] := by rw [hx1]; rfl
  obtain ⟨x2, hx2⟩ : ∃ x : O, x = (O.mem false [] (ri s.i.2)) := ⟨_, rfl⟩
  have rx2 : x2.refs = [] := by rw [hx2]; rfl
  obtain ⟨x3, hx3⟩ : ∃ x : O, x = (O.mem false [] (s.t.1.map fun f => [.view 2 f])) := ⟨_, rfl⟩
  have rx3 : x3.refs = [] := by rw [hx3]; rfl
  obtain ⟨x4, hx4⟩ : ∃ x : O, x = (O.mem false [] (ri s.t.2)) := ⟨_, rfl⟩
  have rx4 : x4.refs = [] := by rw [hx4]; rfl
  obtain ⟨x5, hx5⟩ : ∃ x : O, x = (O.mem false [] (s.v.1.map fun f => [.view 3 f])) := ⟨_, rfl⟩
  have rx5 : x5.refs = [] := by rw [hx5]; rfl
  obtain ⟨x6, hx6⟩ : ∃ x : O, x = (O.mem false [] (ri s.v.2)) := ⟨_, rfl⟩
  have rx6 : x6.refs = [] := by rw [hx6]; rfl
  obtain ⟨x7, hx7⟩ : ∃ x : O, x = (O.mem false [] (s.l.1.map fun f => [.view 1 f])) := ⟨_, rfl⟩
  have rx7 : x7.refs = [] := by rw [hx7]; rfl
  obtain ⟨x8, hx8⟩ : ∃ x : O, x = (O.mem false [] (ri s.l.2)) := ⟨_, rfl⟩
  have rx8 : x8.refs = [] := by rw [hx8]; rfl
  obtain ⟨x9, hx9⟩ : ∃ x : O, x = (O.mem false [] (s.c.1.map fun f => [.view 10 f])) := ⟨_, rfl⟩
  have rx9 : x9.refs = [] := by rw [hx9]; rfl
  obtain ⟨x10, hx10⟩ : ∃ x : O, x = (O.mem false [] (ri s.c.2)) := ⟨_, rfl⟩
  have rx10 : x10.refs = [] := by rw [hx10]; rfl
  have hRm : Rm s = [R, x1, x2, x3, x4, x5, x6, x7, x8, x9, x10] := by rw [hR, hx1, hx2, hx3, hx4, hx5, hx6, hx7, hx8, hx9, hx10]; rfl
  rw [hRm]
  obtain ⟨hn, hm, hg⟩ := hs.c
  refine zac (At [(0, .ptr 0 1 0 0)] [R, x1, x2, x3, x4, x5, x6, x7, x8, x9, x10]) (by simp -dsimp [At]) ?_
  try clear h
  rintro ⟨sl, hp, bs⟩ ⟨rfl, h⟩
  simp only [zaa, zab, zad] at h
  refine zac (At [(0, .ptr 0 1 0 0)] [R, x1, x2, x3, x4, x5, x6, x7, x8, x9, x10]) ?_ ?_
  · refine zac (At [(0, .ptr 0 1 0 0), (3, V.i 0)] [R, x1, x2, x3, x4, x5, x6, x7, x8, x9, x10]) (by simp -dsimp [h, At]) ?_
    try clear h
    rintro ⟨sl, hp, bs⟩ ⟨rfl, h⟩
    simp only [zaa, zab, zad] at h
    refine zag (zbY 11 (by simp) s.c.1.length (fun i st => At [(0, .ptr 0 1 0 0), (3, V.i i)] [R, x1, x2, x3, x4, x5, x6, x7, x8, x9, x10] st) ⟨rfl, by simpa using h⟩ ?_)
    clear h
    rintro i ⟨sl, hp, bs⟩ hi ⟨rfl, h⟩
    simp only [zaa, zab] at h
    unfold zay.b0
    by_cases hil : i < s.c.1.length
    · have hil' : (i : Int) < s.c.1.length := by omega
      have hw : IntKind.i64.wrap ((i : Int) + 1) = ((i + 1 : Nat) : Int) := by rw [wrap64] <;> omega
      obtain ⟨full, hfull⟩ : ∃ full, full = s.c.1[i] := ⟨_, rfl⟩
      obtain ⟨p, hp1, hp2, hp3, hp4⟩ := hg i full (by rw [hfull]; exact List.getElem?_eq_getElem hil)
      have hil2 : i < s.c.2.length := by omega
      have hpi : s.c.2[i] = (p : Int) := by rw [List.getElem?_eq_getElem hil2] at hp1; exact Option.some.inj hp1
      refine zac (At [(0, .ptr 0 1 0 0), (3, V.i i)] [R, x1, x2, x3, x4, x5, x6, x7, x8, x9, x10]) (by simp -dsimp [h, At, hil, hil', hR, rmRow, hx9]) ?_
      try clear h
      rintro ⟨sl, hp, bs⟩ ⟨rfl, h⟩
      simp only [zaa, zab, zad] at h
      refine zac (At [(0, .ptr 0 1 0 0), (3, V.i i)] [R, x1, x2, x3, x4, x5, x6, x7, x8, x9, x10]) ?_ ?_
      · refine zag ?_
        refine zac (At [(0, .ptr 0 1 0 0), (3, V.i i), (4, V.i p)] [R, x1, x2, x3, x4, x5, x6, x7, x8, x9, x10]) (by simp -dsimp [h, At, hil, hil2, hn, hpi, hR, rmRow, hx10, ri]) ?_
        try clear h
        rintro ⟨sl, hp, bs⟩ ⟨rfl, h⟩
        simp only [zaa, zab, zad] at h
        refine zac (At [(0, .ptr 0 1 0 0), (3, V.i i), (4, V.i p), (5, V.i p)] [R, x1, x2, x3, x4, x5, x6, x7, x8, x9, x10]) (by simp -dsimp [h, At]) ?_
        try clear h
        rintro ⟨sl, hp, bs⟩ ⟨rfl, h⟩
        simp only [zaa, zab, zad] at h
        refine zag (zbY 11 (by simp) (full.length - p) (fun k st => At [(0, .ptr 0 1 0 0), (3, V.i i), (4, V.i p), (5, V.i (p + k : Nat))] [R, x1, x2, x3, x4, x5, x6, x7, x8, x9, x10] st) ⟨rfl, by simpa using h⟩ ?_)
        clear h
        rintro k ⟨sl, hp, bs⟩ hk ⟨rfl, h⟩
        simp only [zaa, zab] at h
        unfold zay.b1
        obtain ⟨q, hq⟩ : ∃ q, q = p + k := ⟨_, rfl⟩
        rw [← hq] at h
        by_cases hkl : k < full.length - p
        · have hkf : q < full.length := by omega
          have hkf' : (q : Int) < full.length := by omega
          have hfk : full[q] = mkCons k := by
            have e : q - p = k := by omega
            have := hp4 q (by omega) hkf
            rwa [e] at this
          have hl := zdn k (by omega)
          have hwk : IntKind.i64.wrap ((q : Int) + 1) = (p : Int) + ((k : Int) + 1) := by rw [wrap64] <;> omega
          have hws : IntKind.i64.wrap ((q : Int) - (p : Int)) = (k : Int) := by rw [wrap64] <;> omega
          have w0 : IntKind.i64.wrap (0 : Int) = 0 := by rw [wrap64] <;> omega
          obtain ⟨box, hbox⟩ : ∃ box, box = O.mem false [] [mkCons k] := ⟨_, rfl⟩
          have rbox : box.refs = [] := by rw [hbox]; rfl
          refine zac (At [(0, .ptr 0 1 0 0), (3, V.i i), (4, V.i p), (5, V.i q)] [R, x1, x2, x3, x4, x5, x6, x7, x8, x9, x10]) (by simp -dsimp [h, At, hil, hil', hR, rmRow, hx9, ← hfull, hkf, hkf', hfk, mkCons, hws, vInts, nilS]) ?_
          try clear h
          rintro ⟨sl, hp, bs⟩ ⟨rfl, h⟩
          simp only [zaa, zab, zad] at h
          refine zac (At [(0, .ptr 0 1 0 0), (3, V.i i), (4, V.i p), (5, V.i q)] [R, x1, x2, x3, x4, x5, x6, x7, x8, x9, x10, box]) ?_ ?_
          · refine zag ?_
            refine zac (At [(0, .ptr 0 1 0 0), (3, V.i i), (4, V.i p), (5, V.i q), (6, .ptr 11 1 0 0)] [R, x1, x2, x3, x4, x5, x6, x7, x8, x9, x10, box]) (by simp -dsimp [h, At, hbox, hil, hil', hR, rmRow, hx9, ← hfull, hkf, hkf', hfk, mkCons, hws, vInts, nilS]) ?_
            try clear h
            rintro ⟨sl, hp, bs⟩ ⟨rfl, h⟩
            simp only [zaa, zab, zad] at h
            refine zac (At [(0, .ptr 0 1 0 0), (3, V.i i), (4, V.i p), (5, V.i q), (71, .bool false)] [R, x1, x2, x3, x4, x5, x6, x7, x8, x9, x10, box]) ?_ ?_
            · simp -dsimp [h, hbox, hil, hil', hR, rmRow, hx9, ← hfull, hkf, hkf', hfk, mkCons, hws, vInts, nilS]
              refine gcall (hl) (by simp -dsimp [h, At, hbox, w0, hil, hil', hR, rmRow, hx9, ← hfull, hkf, hkf', hfk, mkCons, hws, vInts, nilS]) (by simp -dsimp [h, At, hbox, w0, hil, hil', hR, rmRow, hx9, ← hfull, hkf, hkf', hfk, mkCons, hws, vInts, nilS]) ?_
              simp -dsimp [h, At, hbox, w0, hil, hil', hR, rmRow, hx9, ← hfull, hkf, hkf', hfk, mkCons, hws, vInts, nilS]
              try rfl
            try clear h
            rintro ⟨sl, hp, bs⟩ ⟨rfl, h⟩
            simp only [zaa, zab, zad] at h
            simp -dsimp [h, At]
          try clear h
          rintro ⟨sl, hp, bs⟩ ⟨rfl, h⟩
          simp only [zaa, zab, zad] at h
          simp -dsimp [h, hwk, At, hkl, hR, rmRow, rbox, rx1, rx2, rx3, rx4, rx5, rx6, rx7, rx8, rx9, rx10]
        · have hkf' : ¬ (q : Int) < full.length := by omega
          have hkf : ¬ q < full.length := by omega
          simp -dsimp [h, hil, hil', hR, rmRow, hx9, ← hfull, hkf', hkf, At]
      try clear h
      rintro ⟨sl, hp, bs⟩ ⟨rfl, h⟩
      simp only [zaa, zab, zad] at h
      simp -dsimp [h, At, hw, hil, hR, rmRow, rx1, rx2, rx3, rx4, rx5, rx6, rx7, rx8, rx9, rx10]
    · have hil' : ¬ (i : Int) < s.c.1.length := by omega
      simp -dsimp [h, hil, hil', hR, rmRow, hx9, At]
  try clear h
  rintro ⟨sl, hp, bs⟩ ⟨rfl, h⟩
  simp only [zaa, zab, zad] at h
  simp -dsimp [h, zay.rs]
  try exact ⟨[], by rw [List.append_nil, hRm]⟩
end Go.Abs.G

namespace Go.Abs.G
open Go.Proofs
theorem zf2 (s : RmS) (hs : RmOk s) :
    DC Tryz.prog zaG.id [.ptr 0 1 0 0] (Rm s) (fun r H => r = .bool true ∧ H = Rm s) := by
  refine DC.of zaG.ok (by simp) ?_
  unfold zaG.ir
  obtain ⟨n, hn⟩ : ∃ n : Nat, n = 0 := ⟨_, rfl⟩
  refine zac (At [(0, .ptr 0 1 0 0)] (Rm s)) (by simp -dsimp [At]) ?_
  try clear h
  rintro ⟨sl, hp, bs⟩ ⟨rfl, h⟩
  simp only [zaa, zab, zad] at h
  refine zac (At [(0, .ptr 0 1 0 0)] (Rm s)) ?_ ?_
  · refine zac (At [(0, .ptr 0 1 0 0), (3, V.i 0)] (Rm s)) (by simp -dsimp [h, At]) ?_
    try clear h
    rintro ⟨sl, hp, bs⟩ ⟨rfl, h⟩
    simp only [zaa, zab, zad] at h
    refine zag (zbY 11 (by simp) 0 (fun i st => At [(0, .ptr 0 1 0 0), (3, V.i i)] (Rm s) st) ⟨rfl, by simpa using h⟩ ?_)
    clear h
    rintro i ⟨sl, hp, bs⟩ hi ⟨rfl, h⟩
    simp only [zaa, zab] at h
    unfold zaG.b0
    obtain rfl : i = 0 := by omega
    simp -dsimp [h, Rm, rmRow, nilS, At]
  try clear h
  rintro ⟨sl, hp, bs⟩ ⟨rfl, h⟩
  simp only [zaa, zab, zad] at h
  simp -dsimp [h, zaG.rs]
theorem zfz (s : RmS) (hs : RmOk s) :
    DC Tryz.prog zaw.id [.ptr 0 1 0 0] (Rm s) (fun r H => r = .bool true ∧ H = Rm s) := by
  refine DC.of zaw.ok (by simp) ?_
  unfold zaw.ir
  obtain ⟨n, hn⟩ : ∃ n : Nat, n = 0 := ⟨_, rfl⟩
  refine zac (At [(0, .ptr 0 1 0 0)] (Rm s)) (by simp -dsimp [At]) ?_
  try clear h
  rintro ⟨sl, hp, bs⟩ ⟨rfl, h⟩
  simp only [zaa, zab, zad] at h
  refine zac (At [(0, .ptr 0 1 0 0)] (Rm s)) ?_ ?_
  · refine zac (At [(0, .ptr 0 1 0 0), (3, V.i 0)] (Rm s)) (by simp -dsimp [h, At]) ?_
    try clear h
    rintro ⟨sl, hp, bs⟩ ⟨rfl, h⟩
    simp only [zaa, zab, zad] at h
    refine zag (zbY 11 (by simp) 0 (fun i st => At [(0, .ptr 0 1 0 0), (3, V.i i)] (Rm s) st) ⟨rfl, by simpa using h⟩ ?_)
    clear h
    rintro i ⟨sl, hp, bs⟩ hi ⟨rfl, h⟩
    simp only [zaa, zab] at h
    unfold zaw.b0
    obtain rfl : i = 0 := by omega
    simp -dsimp [h, Rm, rmRow, nilS, At]
  try clear h
  rintro ⟨sl, hp, bs⟩ ⟨rfl, h⟩
  simp only [zaa, zab, zad] at h
  simp -dsimp [h, zaw.rs]
theorem zhv (s : RmS) (hs : RmOk s) :
    DC Tryz.prog zaT.id [.ptr 0 1 0 0] (Rm s) (fun r H => r = .bool true ∧ H = Rm s) := by
  refine DC.of zaT.ok (by simp) ?_
  unfold zaT.ir
  obtain ⟨n, hn⟩ : ∃ n : Nat, n = 0 := ⟨_, rfl⟩
  refine zac (At [(0, .ptr 0 1 0 0)] (Rm s)) (by simp -dsimp [At]) ?_
  try clear h
  rintro ⟨sl, hp, bs⟩ ⟨rfl, h⟩
  simp only [zaa, zab, zad] at h
  refine zac (At [(0, .ptr 0 1 0 0)] (Rm s)) ?_ ?_
  · refine zac (At [(0, .ptr 0 1 0 0), (3, V.i 0)] (Rm s)) (by simp -dsimp [h, At]) ?_
    try clear h
    rintro ⟨sl, hp, bs⟩ ⟨rfl, h⟩
    simp only [zaa, zab, zad] at h
    refine zag (zbY 11 (by simp) 0 (fun i st => At [(0, .ptr 0 1 0 0), (3, V.i i)] (Rm s) st) ⟨rfl, by simpa using h⟩ ?_)
    clear h
    rintro i ⟨sl, hp, bs⟩ hi ⟨rfl, h⟩
    simp only [zaa, zab] at h
    unfold zaT.b0
    obtain rfl : i = 0 := by omega
    simp -dsimp [h, Rm, rmRow, nilS, At]
  try clear h
  rintro ⟨sl, hp, bs⟩ ⟨rfl, h⟩
  simp only [zaa, zab, zad] at h
  simp -dsimp [h, zaT.rs]
theorem zgN (s : RmS) (hs : RmOk s) :
    DC Tryz.prog zaL.id [.ptr 0 1 0 0] (Rm s) (fun r H => r = .bool true ∧ H = Rm s) := by
  refine DC.of zaL.ok (by simp) ?_
  unfold zaL.ir
  obtain ⟨n, hn⟩ : ∃ n : Nat, n = 0 := ⟨_, rfl⟩
  refine zac (At [(0, .ptr 0 1 0 0)] (Rm s)) (by simp -dsimp [At]) ?_
  try clear h
  rintro ⟨sl, hp, bs⟩ ⟨rfl, h⟩
  simp only [zaa, zab, zad] at h
  refine zac (At [(0, .ptr 0 1 0 0)] (Rm s)) ?_ ?_
  · refine zac (At [(0, .ptr 0 1 0 0), (3, V.i 0)] (Rm s)) (by simp -dsimp [h, At]) ?_
    try clear h
    rintro ⟨sl, hp, bs⟩ ⟨rfl, h⟩
    simp only [zaa, zab, zad] at h
    refine zag (zbY 11 (by simp) 0 (fun i st => At [(0, .ptr 0 1 0 0), (3, V.i i)] (Rm s) st) ⟨rfl, by simpa using h⟩ ?_)
    clear h
    rintro i ⟨sl, hp, bs⟩ hi ⟨rfl, h⟩
    simp only [zaa, zab] at h
    unfold zaL.b0
    obtain rfl : i = 0 := by omega
    simp -dsimp [h, Rm, rmRow, nilS, At]
  try clear h
  rintro ⟨sl, hp, bs⟩ ⟨rfl, h⟩
  simp only [zaa, zab, zad] at h
  simp -dsimp [h, zaL.rs]
theorem zfZ (s : RmS) (hs : RmOk s) :
    DC Tryz.prog zaE.id [.ptr 0 1 0 0] (Rm s) (fun r H => r = .bool true ∧ H = Rm s) := by
  refine DC.of zaE.ok (by simp) ?_
  unfold zaE.ir
  obtain ⟨n, hn⟩ : ∃ n : Nat, n = 0 := ⟨_, rfl⟩
  refine zac (At [(0, .ptr 0 1 0 0)] (Rm s)) (by simp -dsimp [At]) ?_
  try clear h
  rintro ⟨sl, hp, bs⟩ ⟨rfl, h⟩
  simp only [zaa, zab, zad] at h
  refine zac (At [(0, .ptr 0 1 0 0)] (Rm s)) ?_ ?_
  · refine zac (At [(0, .ptr 0 1 0 0), (3, V.i 0)] (Rm s)) (by simp -dsimp [h, At]) ?_
    try clear h
    rintro ⟨sl, hp, bs⟩ ⟨rfl, h⟩
    simp only [zaa, zab, zad] at h
    refine zag (zbY 11 (by simp) 0 (fun i st => At [(0, .ptr 0 1 0 0), (3, V.i i)] (Rm s) st) ⟨rfl, by simpa using h⟩ ?_)
    clear h
    rintro i ⟨sl, hp, bs⟩ hi ⟨rfl, h⟩
    simp only [zaa, zab] at h
    unfold zaE.b0
    obtain rfl : i = 0 := by omega
    simp -dsimp [h, Rm, rmRow, nilS, At]
  try clear h
  rintro ⟨sl, hp, bs⟩ ⟨rfl, h⟩
  simp only [zaa, zab, zad] at h
  simp -dsimp [h, zaE.rs]
theorem zgP (s : RmS) (hs : RmOk s) :
    DC Tryz.prog zaM.id [.ptr 0 1 0 0] (Rm s) (fun r H => r = .bool true ∧ H = Rm s) := by
  refine DC.of zaM.ok (by simp) ?_
  unfold zaM.ir
  obtain ⟨n, hn⟩ : ∃ n : Nat, n = 0 := ⟨_, rfl⟩
  refine zac (At [(0, .ptr 0 1 0 0)] (Rm s)) (by simp -dsimp [At]) ?_
  try clear h
  rintro ⟨sl, hp, bs⟩ ⟨rfl, h⟩
  simp only [zaa, zab, zad] at h
  refine zac (At [(0, .ptr 0 1 0 0)] (Rm s)) ?_ ?_
  · refine zac (At [(0, .ptr 0 1 0 0), (3, V.i 0)] (Rm s)) (by simp -dsimp [h, At]) ?_
    try clear h
    rintro ⟨sl, hp, bs⟩ ⟨rfl, h⟩
    simp only [zaa, zab, zad] at h
    refine zag (zbY 11 (by simp) 0 (fun i st => At [(0, .ptr 0 1 0 0), (3, V.i i)] (Rm s) st) ⟨rfl, by simpa using h⟩ ?_)
    clear h
    rintro i ⟨sl, hp, bs⟩ hi ⟨rfl, h⟩
    simp only [zaa, zab] at h
    unfold zaM.b0
    obtain rfl : i = 0 := by omega
    simp -dsimp [h, Rm, rmRow, nilS, At]
  try clear h
  rintro ⟨sl, hp, bs⟩ ⟨rfl, h⟩
  simp only [zaa, zab, zad] at h
  simp -dsimp [h, zaM.rs]
theorem zf0 (s : RmS) (hs : RmOk s) :
    DC Tryz.prog zaF.id [.ptr 0 1 0 0] (Rm s) (fun r H => r = .bool true ∧ H = Rm s) := by
  refine DC.of zaF.ok (by simp) ?_
  unfold zaF.ir
  obtain ⟨n, hn⟩ : ∃ n : Nat, n = 0 := ⟨_, rfl⟩
  refine zac (At [(0, .ptr 0 1 0 0)] (Rm s)) (by simp -dsimp [At]) ?_
  try clear h
  rintro ⟨sl, hp, bs⟩ ⟨rfl, h⟩
  simp only [zaa, zab, zad] at h
  refine zac (At [(0, .ptr 0 1 0 0)] (Rm s)) ?_ ?_
  · refine zac (At [(0, .ptr 0 1 0 0), (3, V.i 0)] (Rm s)) (by simp -dsimp [h, At]) ?_
    try clear h
    rintro ⟨sl, hp, bs⟩ ⟨rfl, h⟩
    simp only [zaa, zab, zad] at h
    refine zag (zbY 11 (by simp) 0 (fun i st => At [(0, .ptr 0 1 0 0), (3, V.i i)] (Rm s) st) ⟨rfl, by simpa using h⟩ ?_)
    clear h
    rintro i ⟨sl, hp, bs⟩ hi ⟨rfl, h⟩
    simp only [zaa, zab] at h
    unfold zaF.b0
    obtain rfl : i = 0 := by omega
    simp -dsimp [h, Rm, rmRow, nilS, At]
  try clear h
  rintro ⟨sl, hp, bs⟩ ⟨rfl, h⟩
  simp only [zaa, zab, zad] at h
  simp -dsimp [h, zaF.rs]
theorem zfy (s : RmS) (hs : RmOk s) :
    DC Tryz.prog zav.id [.ptr 0 1 0 0] (Rm s) (fun r H => r = .bool true ∧ H = Rm s) := by
  refine DC.of zav.ok (by simp) ?_
  unfold zav.ir
  obtain ⟨n, hn⟩ : ∃ n : Nat, n = 0 := ⟨_, rfl⟩
  refine zac (At [(0, .ptr 0 1 0 0)] (Rm s)) (by simp -dsimp [At]) ?_
  try clear h
  rintro ⟨sl, hp, bs⟩ ⟨rfl, h⟩
  simp only [zaa, zab, zad] at h
  refine zac (At [(0, .ptr 0 1 0 0)] (Rm s)) ?_ ?_
  · refine zac (At [(0, .ptr 0 1 0 0), (3, V.i 0)] (Rm s)) (by simp -dsimp [h, At]) ?_
    try clear h
    rintro ⟨sl, hp, bs⟩ ⟨rfl, h⟩
    simp only [zaa, zab, zad] at h
    refine zag (zbY 11 (by simp) 0 (fun i st => At [(0, .ptr 0 1 0 0), (3, V.i i)] (Rm s) st) ⟨rfl, by simpa using h⟩ ?_)
    clear h
    rintro i ⟨sl, hp, bs⟩ hi ⟨rfl, h⟩
    simp only [zaa, zab] at h
    unfold zav.b0
    obtain rfl : i = 0 := by omega
    simp -dsimp [h, Rm, rmRow, nilS, At]
  try clear h
  rintro ⟨sl, hp, bs⟩ ⟨rfl, h⟩
  simp only [zaa, zab, zad] at h
  simp -dsimp [h, zav.rs]
theorem zgL (s : RmS) (hs : RmOk s) :
    DC Tryz.prog zaK.id [.ptr 0 1 0 0] (Rm s) (fun r H => r = .bool true ∧ H = Rm s) := by
  refine DC.of zaK.ok (by simp) ?_
  unfold zaK.ir
  obtain ⟨n, hn⟩ : ∃ n : Nat, n = 0 := ⟨_, rfl⟩
  refine zac (At [(0, .ptr 0 1 0 0)] (Rm s)) (by simp -dsimp [At]) ?_
  try clear h
  rintro ⟨sl, hp, bs⟩ ⟨rfl, h⟩
  simp only [zaa, zab, zad] at h
  refine zac (At [(0, .ptr 0 1 0 0)] (Rm s)) ?_ ?_
  · refine zac (At [(0, .ptr 0 1 0 0), (3, V.i 0)] (Rm s)) (by simp -dsimp [h, At]) ?_
    try clear h
    rintro ⟨sl, hp, bs⟩ ⟨rfl, h⟩
    simp only [zaa, zab, zad] at h
    refine zag (zbY 11 (by simp) 0 (fun i st => At [(0, .ptr 0 1 0 0), (3, V.i i)] (Rm s) st) ⟨rfl, by simpa using h⟩ ?_)
    clear h
    rintro i ⟨sl, hp, bs⟩ hi ⟨rfl, h⟩
    simp only [zaa, zab] at h
    unfold zaK.b0
    obtain rfl : i = 0 := by omega
    simp -dsimp [h, Rm, rmRow, nilS, At]
  try clear h
  rintro ⟨sl, hp, bs⟩ ⟨rfl, h⟩
  simp only [zaa, zab, zad] at h
  simp -dsimp [h, zaK.rs]
theorem holdS {f : FuncId} {s : RmS} (h : DC Tryz.prog f [.ptr 0 1 0 0] (Rm s) (fun r H => r = .bool true ∧ H = Rm s)) : DC Tryz.prog f [.ptr 0 1 0 0] (Rm s) (fun r H => (∀ g, r.ren g = r) ∧ ∃ s', (r = .bool true ∧ s' = s) ∧ H = Rm s') :=
  DC.mono h fun r H ⟨hr, hH⟩ => ⟨fun g => by rw [hr]; rfl, s, ⟨hr, rfl⟩, hH⟩
theorem zjo (s : RmS) (hs : RmOk s) :
    DC Tryz.prog zbC.id [.ptr 0 1 0 0] (Rm s) (fun r H => (∀ g, r.ren g = r) ∧ ∃ s', (r = .bool true ∧ s' = s) ∧ H = Rm s') := by
  refine holdS ?_
  refine DC.of zbC.ok (by simp) ?_
  unfold zbC.ir
  refine zac (At [(0, .ptr 0 1 0 0)] (Rm s)) (by simp -dsimp [At]) ?_
  try clear h
  rintro ⟨sl, hp, bs⟩ ⟨rfl, h⟩
  simp only [zaa, zab, zad] at h
  refine zac (At [(0, .ptr 0 1 0 0), (3, .bool true)] (Rm s)) (by simp -dsimp [h, At]) ?_
  try clear h
  rintro ⟨sl, hp, bs⟩ ⟨rfl, h⟩
  simp only [zaa, zab, zad] at h
  refine zac (At [(0, .ptr 0 1 0 0), (3, .bool true)] (Rm s)) ?_ ?_
  · simp -dsimp [h]
    refine gcallR (F := []) (holdS (zgO s hs)) (List.append_nil _).symm ?_ ?_ (by simp) ?_
    · simp -dsimp [h, V.idsL, V.ids, addAll]
    · simp -dsimp [h, V.renL, V.ren, idx]
    · rintro r s' ⟨rfl, rfl⟩
      simp -dsimp [h, At]
  try clear h
  rintro ⟨sl, hp, bs⟩ ⟨rfl, h⟩
  simp only [zaa, zab, zad] at h
  refine zac (At [(0, .ptr 0 1 0 0), (3, .bool true)] (Rm s)) ?_ ?_
  · simp -dsimp [h]
    refine gcallR (F := []) (holdS (zf2 s hs)) (List.append_nil _).symm ?_ ?_ (by simp) ?_
    · simp -dsimp [h, V.idsL, V.ids, addAll]
    · simp -dsimp [h, V.renL, V.ren, idx]
    · rintro r s' ⟨rfl, rfl⟩
      simp -dsimp [h, At]
  try clear h
  rintro ⟨sl, hp, bs⟩ ⟨rfl, h⟩
  simp only [zaa, zab, zad] at h
  refine zac (At [(0, .ptr 0 1 0 0), (3, .bool true)] (Rm s)) ?_ ?_
  · simp -dsimp [h]
    refine gcallR (F := []) (holdS (zf1 s hs)) (List.append_nil _).symm ?_ ?_ (by simp) ?_
    · simp -dsimp [h, V.idsL, V.ids, addAll]
    · simp -dsimp [h, V.renL, V.ren, idx]
    · rintro r s' ⟨rfl, rfl⟩
      simp -dsimp [h, At]
  try clear h
  rintro ⟨sl, hp, bs⟩ ⟨rfl, h⟩
  simp only [zaa, zab, zad] at h
  refine zac (At [(0, .ptr 0 1 0 0), (3, .bool true)] (Rm s)) ?_ ?_
  · simp -dsimp [h]
    refine gcallR (F := []) (holdS (zgQ s hs)) (List.append_nil _).symm ?_ ?_ (by simp) ?_
    · simp -dsimp [h, V.idsL, V.ids, addAll]
    · simp -dsimp [h, V.renL, V.ren, idx]
    · rintro r s' ⟨rfl, rfl⟩
      simp -dsimp [h, At]
  try clear h
  rintro ⟨sl, hp, bs⟩ ⟨rfl, h⟩
  simp only [zaa, zab, zad] at h
  refine zac (At [(0, .ptr 0 1 0 0), (3, .bool true)] (Rm s)) ?_ ?_
  · simp -dsimp [h]
    refine gcallR (F := []) (holdS (zfz s hs)) (List.append_nil _).symm ?_ ?_ (by simp) ?_
    · simp -dsimp [h, V.idsL, V.ids, addAll]
    · simp -dsimp [h, V.renL, V.ren, idx]
    · rintro r s' ⟨rfl, rfl⟩
      simp -dsimp [h, At]
  try clear h
  rintro ⟨sl, hp, bs⟩ ⟨rfl, h⟩
  simp only [zaa, zab, zad] at h
  refine zac (At [(0, .ptr 0 1 0 0), (3, .bool true)] (Rm s)) ?_ ?_
  · simp -dsimp [h]
    refine gcallR (F := []) (holdS (zhv s hs)) (List.append_nil _).symm ?_ ?_ (by simp) ?_
    · simp -dsimp [h, V.idsL, V.ids, addAll]
    · simp -dsimp [h, V.renL, V.ren, idx]
    · rintro r s' ⟨rfl, rfl⟩
      simp -dsimp [h, At]
  try clear h
  rintro ⟨sl, hp, bs⟩ ⟨rfl, h⟩
  simp only [zaa, zab, zad] at h
  refine zac (At [(0, .ptr 0 1 0 0), (3, .bool true)] (Rm s)) ?_ ?_
  · simp -dsimp [h]
    refine gcallR (F := []) (holdS (zgN s hs)) (List.append_nil _).symm ?_ ?_ (by simp) ?_
    · simp -dsimp [h, V.idsL, V.ids, addAll]
    · simp -dsimp [h, V.renL, V.ren, idx]
    · rintro r s' ⟨rfl, rfl⟩
      simp -dsimp [h, At]
  try clear h
  rintro ⟨sl, hp, bs⟩ ⟨rfl, h⟩
  simp only [zaa, zab, zad] at h
  refine zac (At [(0, .ptr 0 1 0 0), (3, .bool true)] (Rm s)) ?_ ?_
  · simp -dsimp [h]
    refine gcallR (F := []) (holdS (zfZ s hs)) (List.append_nil _).symm ?_ ?_ (by simp) ?_
    · simp -dsimp [h, V.idsL, V.ids, addAll]
    · simp -dsimp [h, V.renL, V.ren, idx]
    · rintro r s' ⟨rfl, rfl⟩
      simp -dsimp [h, At]
  try clear h
  rintro ⟨sl, hp, bs⟩ ⟨rfl, h⟩
  simp only [zaa, zab, zad] at h
  refine zac (At [(0, .ptr 0 1 0 0), (3, .bool true)] (Rm s)) ?_ ?_
  · simp -dsimp [h]
    refine gcallR (F := []) (holdS (zfY s hs)) (List.append_nil _).symm ?_ ?_ (by simp) ?_
    · simp -dsimp [h, V.idsL, V.ids, addAll]
    · simp -dsimp [h, V.renL, V.ren, idx]
    · rintro r s' ⟨rfl, rfl⟩
      simp -dsimp [h, At]
  try clear h
  rintro ⟨sl, hp, bs⟩ ⟨rfl, h⟩
  simp only [zaa, zab, zad] at h
  refine zac (At [(0, .ptr 0 1 0 0), (3, .bool true)] (Rm s)) ?_ ?_
  · simp -dsimp [h]
    refine gcallR (F := []) (holdS (zgM s hs)) (List.append_nil _).symm ?_ ?_ (by simp) ?_
    · simp -dsimp [h, V.idsL, V.ids, addAll]
    · simp -dsimp [h, V.renL, V.ren, idx]
    · rintro r s' ⟨rfl, rfl⟩
      simp -dsimp [h, At]
  try clear h
  rintro ⟨sl, hp, bs⟩ ⟨rfl, h⟩
  simp only [zaa, zab, zad] at h
  refine zac (At [(0, .ptr 0 1 0 0), (3, .bool true)] (Rm s)) ?_ ?_
  · simp -dsimp [h]
    refine gcallR (F := []) (holdS (zgP s hs)) (List.append_nil _).symm ?_ ?_ (by simp) ?_
    · simp -dsimp [h, V.idsL, V.ids, addAll]
    · simp -dsimp [h, V.renL, V.ren, idx]
    · rintro r s' ⟨rfl, rfl⟩
      simp -dsimp [h, At]
  try clear h
  rintro ⟨sl, hp, bs⟩ ⟨rfl, h⟩
  simp only [zaa, zab, zad] at h
  refine zac (At [(0, .ptr 0 1 0 0), (3, .bool true)] (Rm s)) ?_ ?_
  · simp -dsimp [h]
    refine gcallR (F := []) (holdS (zf0 s hs)) (List.append_nil _).symm ?_ ?_ (by simp) ?_
    · simp -dsimp [h, V.idsL, V.ids, addAll]
    · simp -dsimp [h, V.renL, V.ren, idx]
    · rintro r s' ⟨rfl, rfl⟩
      simp -dsimp [h, At]
  try clear h
  rintro ⟨sl, hp, bs⟩ ⟨rfl, h⟩
  simp only [zaa, zab, zad] at h
  refine zac (At [(0, .ptr 0 1 0 0), (3, .bool true)] (Rm s)) ?_ ?_
  · simp -dsimp [h]
    refine gcallR (F := []) (holdS (zfy s hs)) (List.append_nil _).symm ?_ ?_ (by simp) ?_
    · simp -dsimp [h, V.idsL, V.ids, addAll]
    · simp -dsimp [h, V.renL, V.ren, idx]
    · rintro r s' ⟨rfl, rfl⟩
      simp -dsimp [h, At]
  try clear h
  rintro ⟨sl, hp, bs⟩ ⟨rfl, h⟩
  simp only [zaa, zab, zad] at h
  refine zac (At [(3, .bool true)] (Rm s)) ?_ ?_
  · simp -dsimp [h]
    refine gcallR (F := []) (holdS (zgL s hs)) (List.append_nil _).symm ?_ ?_ (by simp) ?_
    · simp -dsimp [h, V.idsL, V.ids, addAll]
    · simp -dsimp [h, V.renL, V.ren, idx]
    · rintro r s' ⟨rfl, rfl⟩
      simp -dsimp [h, At]
  try clear h
  rintro ⟨sl, hp, bs⟩ ⟨rfl, h⟩
  simp only [zaa, zab, zad] at h
  simp -dsimp [h, zbC.rs]
end Go.Abs.G

namespace Go.Abs.G
open Go.Proofs
theorem zdK (a : List Int) (ha : a.length ≤ maxLen) : Pf Tryz.prog za7.id [vInts a, vInts a] (.bool true) := by
  have hM : (maxLen : Int) ≤ 9223372036854775807 := by decide
  refine DC.of za7.ok (by simp) ?_
  unfold za7.ir
  obtain ⟨A, hA⟩ : ∃ A, A = vInts a := ⟨_, rfl⟩
  have hAi : A.ids = [] := by rw [hA]; rfl
  rw [← hA]
  refine zac (At [(0, A), (1, A)] []) (by simp -dsimp [At]) ?_
  try clear h
  rintro ⟨sl, hp, bs⟩ ⟨rfl, h⟩
  simp only [zaa, zab, zad] at h
  refine zac (At [(0, A), (1, A)] []) (by simp -dsimp [h, At, hA, vInts]) ?_
  try clear h
  rintro ⟨sl, hp, bs⟩ ⟨rfl, h⟩
  simp only [zaa, zab, zad] at h
  refine zac (At [] []) ?_ ?_
  · refine zac (At [(0, A), (1, A), (5, V.i 0)] []) (by simp -dsimp [h, At]) ?_
    try clear h
    rintro ⟨sl, hp, bs⟩ ⟨rfl, h⟩
    simp only [zaa, zab, zad] at h
    refine zag (zbY 0 (by simp) a.length (fun i st => At [(0, A), (1, A), (5, V.i i)] [] st) ⟨rfl, by simpa using h⟩ ?_)
    clear h
    rintro i ⟨sl, hp, bs⟩ hi ⟨rfl, h⟩
    simp only [zaa, zab] at h
    unfold za7.b0
    by_cases hil : i < a.length
    · have hil' : (i : Int) < a.length := by omega
      have hw : IntKind.i64.wrap ((i : Int) + 1) = ((i + 1 : Nat) : Int) := by rw [wrap64] <;> omega
      refine zac (At [(0, A), (1, A), (5, V.i i)] []) (by simp -dsimp [h, At, hil, hil', hA, vInts]) ?_
      try clear h
      rintro ⟨sl, hp, bs⟩ ⟨rfl, h⟩
      simp only [zaa, zab, zad] at h
      rw [hA] at h
      refine zac (At [(0, A), (1, A), (5, V.i i)] []) ?_ ?_
      · rw [hA]
        refine zag ?_
        simp -dsimp [h, At, hil, vInts]
      try clear h
      rintro ⟨sl, hp, bs⟩ ⟨rfl, h⟩
      simp only [zaa, zab, zad] at h
      simp -dsimp [h, At, hw, hil, hAi]
    · have hil' : ¬ (i : Int) < a.length := by omega
      simp -dsimp [h, hil, hil', hA, vInts, At]
  try clear h
  rintro ⟨sl, hp, bs⟩ ⟨rfl, h⟩
  simp only [zaa, zab, zad] at h
  simp -dsimp [h, za7.rs]
theorem zf9 (a : List Int) (ha : a.length ≤ maxLen) : Pf Tryz.prog zbd.id [vInts a, vInts a] (.bool true) := by
  have hM : (maxLen : Int) ≤ 9223372036854775807 := by decide
  refine DC.of zbd.ok (by simp) ?_
  unfold zbd.ir
  obtain ⟨A, hA⟩ : ∃ A, A = vInts a := ⟨_, rfl⟩
  have hAi : A.ids = [] := by rw [hA]; rfl
  rw [← hA]
  refine zac (At [(0, A), (1, A)] []) (by simp -dsimp [At]) ?_
  try clear h
  rintro ⟨sl, hp, bs⟩ ⟨rfl, h⟩
  simp only [zaa, zab, zad] at h
  refine zac (At [(0, A), (1, A)] []) (by simp -dsimp [h, At, hA, vInts]) ?_
  try clear h
  rintro ⟨sl, hp, bs⟩ ⟨rfl, h⟩
  simp only [zaa, zab, zad] at h
  refine zac (At [] []) ?_ ?_
  · refine zac (At [(0, A), (1, A), (5, V.i 0)] []) (by simp -dsimp [h, At]) ?_
    try clear h
    rintro ⟨sl, hp, bs⟩ ⟨rfl, h⟩
    simp only [zaa, zab, zad] at h
    refine zag (zbY 0 (by simp) a.length (fun i st => At [(0, A), (1, A), (5, V.i i)] [] st) ⟨rfl, by simpa using h⟩ ?_)
    clear h
    rintro i ⟨sl, hp, bs⟩ hi ⟨rfl, h⟩
    simp only [zaa, zab] at h
    unfold zbd.b0
    by_cases hil : i < a.length
    · have hil' : (i : Int) < a.length := by omega
      have hw : IntKind.i64.wrap ((i : Int) + 1) = ((i + 1 : Nat) : Int) := by rw [wrap64] <;> omega
      refine zac (At [(0, A), (1, A), (5, V.i i)] []) (by simp -dsimp [h, At, hil, hil', hA, vInts]) ?_
      try clear h
      rintro ⟨sl, hp, bs⟩ ⟨rfl, h⟩
      simp only [zaa, zab, zad] at h
      rw [hA] at h
      refine zac (At [(0, A), (1, A), (5, V.i i)] []) ?_ ?_
      · rw [hA]
        refine zag ?_
        simp -dsimp [h, At, hil, vInts]
      try clear h
      rintro ⟨sl, hp, bs⟩ ⟨rfl, h⟩
      simp only [zaa, zab, zad] at h
      simp -dsimp [h, At, hw, hil, hAi]
    · have hil' : ¬ (i : Int) < a.length := by omega
      simp -dsimp [h, hil, hil', hA, vInts, At]
  try clear h
  rintro ⟨sl, hp, bs⟩ ⟨rfl, h⟩
  simp only [zaa, zab, zad] at h
  simp -dsimp [h, zbd.rs]
theorem zd8 (a : List Term) (ha : a.length ≤ maxLen) : Pf Tryz.prog za6.id [vTerms a, vTerms a] (.bool true) := by
  have hM : (maxLen : Int) ≤ 9223372036854775807 := by decide
  refine DC.of za6.ok (by simp) ?_
  unfold za6.ir
  obtain ⟨A, hA⟩ : ∃ A, A = vTerms a := ⟨_, rfl⟩
  have hAi : A.ids = [] := by rw [hA]; rfl
  rw [← hA]
  refine zac (At [(0, A), (1, A)] []) (by simp -dsimp [At]) ?_
  try clear h
  rintro ⟨sl, hp, bs⟩ ⟨rfl, h⟩
  simp only [zaa, zab, zad] at h
  refine zac (At [(0, A), (1, A)] []) (by simp -dsimp [h, At, hA, vTerms]) ?_
  try clear h
  rintro ⟨sl, hp, bs⟩ ⟨rfl, h⟩
  simp only [zaa, zab, zad] at h
  refine zac (At [] []) ?_ ?_
  · refine zac (At [(0, A), (1, A), (5, V.i 0)] []) (by simp -dsimp [h, At]) ?_
    try clear h
    rintro ⟨sl, hp, bs⟩ ⟨rfl, h⟩
    simp only [zaa, zab, zad] at h
    refine zag (zbY 0 (by simp) a.length (fun i st => At [(0, A), (1, A), (5, V.i i)] [] st) ⟨rfl, by simpa using h⟩ ?_)
    clear h
    rintro i ⟨sl, hp, bs⟩ hi ⟨rfl, h⟩
    simp only [zaa, zab] at h
    unfold za6.b0
    by_cases hil : i < a.length
    · have hil' : (i : Int) < a.length := by omega
      have hw : IntKind.i64.wrap ((i : Int) + 1) = ((i + 1 : Nat) : Int) := by rw [wrap64] <;> omega
      refine zac (At [(0, A), (1, A), (5, V.i i)] []) (by simp -dsimp [h, At, hil, hil', hA, vTerms]) ?_
      try clear h
      rintro ⟨sl, hp, bs⟩ ⟨rfl, h⟩
      simp only [zaa, zab, zad] at h
      rw [hA] at h
      refine zac (At [(0, A), (1, A), (5, V.i i)] []) ?_ ?_
      · rw [hA]
        refine zag ?_
        simp -dsimp [h, At, hil, vTerms, Term.cells]
      try clear h
      rintro ⟨sl, hp, bs⟩ ⟨rfl, h⟩
      simp only [zaa, zab, zad] at h
      simp -dsimp [h, At, hw, hil, hAi]
    · have hil' : ¬ (i : Int) < a.length := by omega
      simp -dsimp [h, hil, hil', hA, vTerms, At]
  try clear h
  rintro ⟨sl, hp, bs⟩ ⟨rfl, h⟩
  simp only [zaa, zab, zad] at h
  simp -dsimp [h, za6.rs]
theorem zga (a : List (List Int)) (ha : a.length ≤ maxLen) (hr : ∀ r ∈ a, r.length ≤ maxLen) : Pf Tryz.prog zbe.id [vIntss a, vIntss a] (.bool true) := by
  have hM : (maxLen : Int) ≤ 9223372036854775807 := by decide
  refine DC.of zbe.ok (by simp) ?_
  unfold zbe.ir
  obtain ⟨A, hA⟩ : ∃ A, A = vIntss a := ⟨_, rfl⟩
  have hAi : A.ids = [] := by rw [hA]; rfl
  rw [← hA]
  refine zac (At [(0, A), (1, A)] []) (by simp -dsimp [At]) ?_
  try clear h
  rintro ⟨sl, hp, bs⟩ ⟨rfl, h⟩
  simp only [zaa, zab, zad] at h
  refine zac (At [(0, A), (1, A)] []) (by simp -dsimp [h, At, hA, vIntss]) ?_
  try clear h
  rintro ⟨sl, hp, bs⟩ ⟨rfl, h⟩
  simp only [zaa, zab, zad] at h
  refine zac (At [] []) ?_ ?_
  · refine zac (At [(0, A), (1, A), (5, V.i 0)] []) (by simp -dsimp [h, At]) ?_
    try clear h
    rintro ⟨sl, hp, bs⟩ ⟨rfl, h⟩
    simp only [zaa, zab, zad] at h
    refine zag (zbY 0 (by simp) a.length (fun i st => At [(0, A), (1, A), (5, V.i i)] [] st) ⟨rfl, by simpa using h⟩ ?_)
    clear h
    rintro i ⟨sl, hp, bs⟩ hi ⟨rfl, h⟩
    simp only [zaa, zab] at h
    unfold zbe.b0
    by_cases hil : i < a.length
    · have hil' : (i : Int) < a.length := by omega
      have hw : IntKind.i64.wrap ((i : Int) + 1) = ((i + 1 : Nat) : Int) := by rw [wrap64] <;> omega
      refine zac (At [(0, A), (1, A), (5, V.i i)] []) (by simp -dsimp [h, At, hil, hil', hA, vIntss]) ?_
      try clear h
      rintro ⟨sl, hp, bs⟩ ⟨rfl, h⟩
      simp only [zaa, zab, zad] at h
      rw [hA] at h
      refine zac (At [(0, A), (1, A), (5, V.i i)] []) ?_ ?_
      · rw [hA]
        refine zag ?_
        simp -dsimp [h, hil, vIntss]
        refine gcall (zdK a[i] (hr _ (List.getElem_mem hil))) (by simp -dsimp [h, hil, vIntss]) (by simp -dsimp [h, hil, vInts, vIntss]) ?_
        simp -dsimp [h, At, hil, vIntss]
      try clear h
      rintro ⟨sl, hp, bs⟩ ⟨rfl, h⟩
      simp only [zaa, zab, zad] at h
      simp -dsimp [h, At, hw, hil, hAi]
    · have hil' : ¬ (i : Int) < a.length := by omega
      simp -dsimp [h, hil, hil', hA, vIntss, At]
  try clear h
  rintro ⟨sl, hp, bs⟩ ⟨rfl, h⟩
  simp only [zaa, zab, zad] at h
  simp -dsimp [h, zbe.rs]
end Go.Abs.G

namespace Go.Abs.G
open Go.Proofs
theorem ziw {l : List Int} {x : Int} (h0 : 0 ≤ x) (h1 : x < l.length) : ∃ n : Nat, x = (n : Int) ∧ n < l.length ∧ ∃ h : n < l.length, l[n] = atI l x := by
  obtain ⟨n, rfl⟩ := Int.eq_ofNat_of_zero_le h0
  have h : n < l.length := by omega
  exact ⟨n, rfl, h, h, by simp [atI, List.getD, List.getElem?_eq_getElem h]⟩
theorem zeK (l : List Int) (hl : l.length ≤ maxLen) : Pf Tryz.prog zbb.id [vInts l] (.bool (!greatB l)) := by
  have hM : (maxLen : Int) ≤ 9223372036854775807 := by decide
  refine DC.of zbb.ok (by simp) ?_
  unfold zbb.ir
  refine zac (At [(0, vInts l)] []) (by simp -dsimp [At]) ?_
  try clear h
  rintro ⟨sl, hp, bs⟩ ⟨rfl, h⟩
  simp only [zaa, zab, zad] at h
  refine zac (fun st => greatB l = false ∧ st.hp = []) ?_ ?_
  · refine zac (At [(0, vInts l), (3, V.i 0)] []) (by simp -dsimp [h, At]) ?_
    try clear h
    rintro ⟨sl, hp, bs⟩ ⟨rfl, h⟩
    simp only [zaa, zab, zad] at h
    refine zag (zbY 0 (by simp) l.length (fun i st => greatB (l.take i) = false ∧ At [(0, vInts l), (3, V.i i)] [] st) ⟨rfl, rfl, by simpa using h⟩ ?_)
    clear h
    rintro i ⟨sl, hp, bs⟩ hi ⟨hd, rfl, h⟩
    simp only [zaa, zab] at h
    unfold zbb.b0
    by_cases hil : i < l.length
    · have hil' : (i : Int) < l.length := by omega
      have hw : IntKind.i64.wrap ((i : Int) + 1) = ((i + 1 : Nat) : Int) := by rw [wrap64] <;> omega
      refine zac (At [(0, vInts l), (3, V.i i)] []) (by simp -dsimp [h, At, hil, hil', vInts]) ?_
      try clear h
      rintro ⟨sl, hp, bs⟩ ⟨rfl, h⟩
      simp only [zaa, zab, zad] at h
      have hs : l.take (i + 1) = l.take i ++ [l[i]] := by rw [List.take_add_one, List.getElem?_eq_getElem hil]; rfl
      refine zac (fun st => greatB (l.take (i + 1)) = false ∧ At [(0, vInts l), (3, V.i i)] [] st) ?_ ?_
      · refine zag ?_
        have hn := zds l[i]
        have hg : greatB (l.take (i + 1)) = !withinB l[i] 1000000000 := by
          rw [hs]; unfold greatB at hd ⊢
          rw [List.any_append, hd]; simp
        rw [hg]
        simp -dsimp [h, hil, hil', vInts]
        refine gcall (hn) (by simp -dsimp [h, hil, vInts]) (by simp -dsimp [h, hil, vInts]) ?_
        simp -dsimp [h, hil, vInts]
        cases hb : withinB l[i] 1000000000
        · have hG : greatB l = true := by
            unfold greatB; rw [List.any_eq_true]
            exact ⟨l[i], List.getElem_mem hil, by simp [hb]⟩
          simp -dsimp [h, hG, zbb.rs]
        · simp -dsimp [h, At, vInts]
      try clear h
      rintro ⟨sl, hp, bs⟩ ⟨hg, rfl, h⟩
      simp only [zaa, zab, zad] at h
      rw [hg]
      simp -dsimp [h, At, hw, hil, vInts]
    · have hil' : ¬ (i : Int) < l.length := by omega
      have e : i = l.length := by omega
      subst e
      rw [List.take_length] at hd
      rw [hd]
      simp -dsimp [h, hil', vInts]
  · rintro ⟨sl, hp, bs⟩ ⟨hd, rfl⟩
    rw [hd]
    simp -dsimp [zbb.rs]
theorem zgz (g : Int → Int) : ∀ (l : List Term), (∀ t ∈ l, -1000000000000000 ≤ t.c * g t.x ∧ t.c * g t.x ≤ 1000000000000000) → -(1000000000000000 * l.length : Int) ≤ sumI g l ∧ sumI g l ≤ 1000000000000000 * l.length
  | [], _ => by simp [sumI]
  | t :: l, h => by
    have h1 := zgz g l fun t ht => h t (by simp [ht])
    have h2 := h t (by simp)
    have e : sumI g (t :: l) = t.c * g t.x + sumI g l := by simp [sumI]
    rw [e, List.length_cons]
    omega
theorem zkH (g : Int → Int) (l : List Term) {i : Nat} (h : i < l.length) : sumI g (l.take (i + 1)) = sumI g (l.take i) + l[i].c * g l[i].x := by
  unfold sumI
  rw [List.take_succ_eq_append_getElem h, List.map_append, List.sum_append]; simp
theorem zfS (l : List Term) (vs : List Int) (hl : l.length ≤ 64) (ht : ∀ t ∈ l, TermOk vs.length t) (hg : greatB vs = false) : Pf Tryz.prog zbL.id [vTerms l, vInts vs] (V.i (sumI (atI vs) l)) := by
  refine DC.of zbL.ok (by simp) ?_
  unfold zbL.ir
  have hT : ∀ t ∈ l, -1000000000000000 ≤ t.c * atI vs t.x ∧ t.c * atI vs t.x ≤ 1000000000000000 := fun t h => zdr ⟨(ht t h).c.1, (ht t h).c.2.1⟩ (zeE hg (ht t h).x.1 (ht t h).x.2)
  refine zac (At [(0, vTerms l), (1, vInts vs)] []) (by simp -dsimp [At]) ?_
  try clear h
  rintro ⟨sl, hp, bs⟩ ⟨rfl, h⟩
  simp only [zaa, zab, zad] at h
  refine zac (At [(0, vTerms l), (1, vInts vs), (5, V.i 0)] []) (by simp -dsimp [h, At]) ?_
  try clear h
  rintro ⟨sl, hp, bs⟩ ⟨rfl, h⟩
  simp only [zaa, zab, zad] at h
  refine zac (At [(5, V.i (sumI (atI vs) l))] []) ?_ ?_
  · refine zac (At [(0, vTerms l), (1, vInts vs), (5, V.i 0), (6, V.i 0)] []) (by simp -dsimp [h, At]) ?_
    try clear h
    rintro ⟨sl, hp, bs⟩ ⟨rfl, h⟩
    simp only [zaa, zab, zad] at h
    refine zag (zbY 0 (by simp) l.length (fun i st => ∃ S, S = sumI (atI vs) (l.take i) ∧ At [(0, vTerms l), (1, vInts vs), (5, V.i S), (6, V.i i)] [] st) ⟨0, by simp [sumI], rfl, by simpa using h⟩ ?_)
    clear h
    rintro i ⟨sl, hp, bs⟩ hi ⟨S, hS, rfl, h⟩
    simp only [zaa, zab] at h
    unfold zbL.b0
    by_cases hil : i < l.length
    · have hil' : (i : Int) < l.length := by omega
      have hw : IntKind.i64.wrap ((i : Int) + 1) = ((i + 1 : Nat) : Int) := by rw [wrap64] <;> omega
      refine zac (At [(0, vTerms l), (1, vInts vs), (5, V.i S), (6, V.i i)] []) (by simp -dsimp [h, At, hil, hil', vTerms]) ?_
      try clear h
      rintro ⟨sl, hp, bs⟩ ⟨rfl, h⟩
      simp only [zaa, zab, zad] at h
      have hs := zkH (atI vs) l hil
      have hb1 := zgz (atI vs) (l.take i) fun t h => hT t (List.mem_of_mem_take h)
      have hb2 := hT _ (List.getElem_mem hil)
      have htk := ht _ (List.getElem_mem hil)
      rw [← hS] at hs hb1
      have hlen : (l.take i).length ≤ 64 := by simp; omega
      obtain ⟨t, htt⟩ : ∃ t, l[i] = t := ⟨_, rfl⟩
      rw [htt] at hs hb2 htk
      obtain ⟨n, hn, hnl, _, hvn⟩ := ziw htk.x.1 htk.x.2
      have hw1 : IntKind.i64.wrap (t.c * atI vs t.x) = t.c * atI vs t.x := by rw [wrap64] <;> omega
      have hw2 : IntKind.i64.wrap (S + t.c * atI vs t.x) = S + t.c * atI vs t.x := by rw [wrap64] <;> omega
      have hv2 : vs[n] = atI vs (n : Int) := by rw [hvn, hn]
      rw [hn] at hw1 hw2 hs
      refine zac (At [(0, vTerms l), (1, vInts vs), (5, V.i (S + t.c * atI vs (n : Int))), (6, V.i i)] []) (by refine zag ?_; simp -dsimp [h, At, hil, vTerms, vInts, Term.cells, htt, hn, hnl, hv2, hw1, hw2]) ?_
      try clear h
      rintro ⟨sl, hp, bs⟩ ⟨rfl, h⟩
      simp only [zaa, zab, zad] at h
      simp -dsimp [h, At, hw, hil, vInts, vTerms, hs]
    · have hil' : ¬ (i : Int) < l.length := by omega
      have e : i = l.length := by omega
      subst e
      rw [List.take_length] at hS
      simp -dsimp [h, hil', vTerms, At, hS]
  try clear h
  rintro ⟨sl, hp, bs⟩ ⟨rfl, h⟩
  simp only [zaa, zab, zad] at h
  simp -dsimp [h, zbL.rs]
theorem zfc (op n k : Int) (hop : 1 ≤ op ∧ op ≤ 3) : Pf Tryz.prog zby.id [V.i op, V.i n, V.i k] (.bool (opB op n k)) := by
  refine DC.of zby.ok (by simp) ?_
  unfold zby.ir
  refine zac (At [(0, V.i op), (1, V.i n), (2, V.i k)] []) (by simp -dsimp [At]) ?_
  try clear h
  rintro ⟨sl, hp, bs⟩ ⟨rfl, h⟩
  simp only [zaa, zab, zad] at h
  have e : op = 1 ∨ op = 2 ∨ op = 3 := by omega
  unfold opB
  rcases e with e | e | e <;> subst e
  · by_cases c : n ≤ k <;> simp -dsimp [h, c, zby.rs]
  · by_cases c : n = k <;> simp -dsimp [h, c, zby.rs]
  · by_cases c : k ≤ n <;> simp -dsimp [h, c, zby.rs]
end Go.Abs.G

namespace Go.Abs.G
open Go.Proofs
def valsAt (xs vs : List Int) : List Int := xs.map (atI vs)
theorem zdk (xs vs : List Int) : (valsAt xs vs).length = xs.length := by simp [valsAt]
structure AtP (xs vs : List Int) : Prop where
  l : xs.length ≤ 64
  x : ∀ x ∈ xs, 0 ≤ x ∧ x < vs.length
theorem AtP.get {xs vs : List Int} (h : AtP xs vs) {i : Nat} (hi : i < xs.length) : ∃ n : Nat, xs[i] = (n : Int) ∧ n < vs.length ∧ ∃ hn : n < vs.length, vs[n] = (valsAt xs vs)[i]'(by rw [zdk]; exact hi) := by
  have hx := h.x _ (List.getElem_mem hi)
  obtain ⟨n, h1, h2, h3, h4⟩ := ziw hx.1 hx.2
  exact ⟨n, h1, h2, h3, by rw [h4]; simp [valsAt]⟩
theorem takeI {α : Type} (l : List α) (i : Nat) (h : i < l.length) : l.take (i + 1) = l.take i ++ [l[i]] := by rw [List.take_add_one, List.getElem?_eq_getElem h]; rfl
theorem zft (xs vs : List Int) (hp : AtP xs vs) : Pf Tryz.prog zaY.id [vInts xs, vInts vs] (.bool (decide ((valsAt xs vs).Nodup))) := by
  have hl := hp.l
  obtain ⟨X, hX⟩ : ∃ X, X = valsAt xs vs := ⟨_, rfl⟩
  have hXl : X.length = xs.length := by rw [hX, zdk]
  refine DC.of zaY.ok (by simp) ?_
  unfold zaY.ir
  rw [← hX]
  refine zac (At [(0, vInts xs), (1, vInts vs)] []) (by simp -dsimp [At]) ?_
  try clear h
  rintro ⟨sl, hp, bs⟩ ⟨rfl, h⟩
  simp only [zaa, zab, zad] at h
  refine zac (fun st => X.Nodup ∧ st.hp = []) ?_ ?_
  · refine zac (At [(0, vInts xs), (1, vInts vs), (5, V.i 0)] []) (by simp -dsimp [h, At]) ?_
    try clear h
    rintro ⟨sl, hp, bs⟩ ⟨rfl, h⟩
    simp only [zaa, zab, zad] at h
    refine zag (zbY 0 (by simp) xs.length (fun i st => (X.take i).Nodup ∧ At [(0, vInts xs), (1, vInts vs), (5, V.i i)] [] st) ⟨by simp, rfl, by simpa using h⟩ ?_)
    clear h
    rintro i ⟨sl, hp', bs⟩ hi ⟨hd, rfl, h⟩
    simp only [zaa, zab] at h
    unfold zaY.b0
    by_cases hil : i < xs.length
    · have hil' : (i : Int) < xs.length := by omega
      have hiX : i < X.length := by omega
      have hw : IntKind.i64.wrap ((i : Int) + 1) = ((i + 1 : Nat) : Int) := by rw [wrap64] <;> omega
      refine zac (At [(0, vInts xs), (1, vInts vs), (5, V.i i)] []) (by simp -dsimp [h, At, hil, hil', vInts]) ?_
      try clear h
      rintro ⟨sl, hp, bs⟩ ⟨rfl, h⟩
      simp only [zaa, zab, zad] at h
      obtain ⟨n, hn, hnl, hnl2, hvn⟩ := hp.get hil
      obtain ⟨y, hy⟩ : ∃ y, y = X[i] := ⟨_, rfl⟩
      have hvy : vs[n] = y := by rw [hvn, hy]; simp only [hX]
      refine zac (fun st => (X.take (i + 1)).Nodup ∧ At [(0, vInts xs), (1, vInts vs), (5, V.i i)] [] st) ?_ ?_
      · refine zag ?_
        refine zac (At [(0, vInts xs), (1, vInts vs), (5, V.i i), (6, V.i 0)] []) (by simp -dsimp [h, At]) ?_
        try clear h
        rintro ⟨sl, hp, bs⟩ ⟨rfl, h⟩
        simp only [zaa, zab, zad] at h
        refine zag (zbY 0 (by simp) i (fun k st => y ∉ X.take k ∧ At [(0, vInts xs), (1, vInts vs), (5, V.i i), (6, V.i k)] [] st) ⟨by simp, rfl, by simpa using h⟩ ?_)
        clear h
        rintro k ⟨sl, hp'', bs⟩ hk ⟨hd2, rfl, h⟩
        simp only [zaa, zab] at h
        unfold zaY.b1
        by_cases hkl : k < i
        · have hkl' : (k : Int) < i := by omega
          have hkx : k < xs.length := by omega
          have hkX : k < X.length := by omega
          have hkx' : (k : Int) < xs.length := by omega
          have hwk : IntKind.i64.wrap ((k : Int) + 1) = ((k + 1 : Nat) : Int) := by rw [wrap64] <;> omega
          obtain ⟨q, hq, hql, hql2, hvq⟩ := hp.get hkx
          obtain ⟨z, hz⟩ : ∃ z, z = X[k] := ⟨_, rfl⟩
          have hvz : vs[q] = z := by rw [hvq, hz]; simp only [hX]
          by_cases he : z = y
          · have hno : ¬ X.Nodup := fun hN => by
              have h1 := hN.sublist (List.take_sublist (i + 1) X)
              rw [takeI X i hiX, List.nodup_append] at h1
              refine h1.2.2 z ?_ y (by rw [hy]; simp) he
              rw [hz]
              exact List.mem_take_iff_getElem.2 ⟨k, by omega, rfl⟩
            simp -dsimp [h, hkl, hkl', hkx, hkx', hil, vInts, hq, hql, hn, hnl, hvz, hvy, he, zaY.rs, hno]
          · have hstep : y ∉ X.take (k + 1) := by
              rw [takeI X k hkX, List.mem_append, ← hz]
              simp only [List.mem_singleton, not_or]
              exact ⟨hd2, fun e => he e.symm⟩
            simp -dsimp [h, hkl, hkl', hkx, hkx', hil, vInts, hq, hql, hn, hnl, hvz, hvy, he, At, hwk, hstep]
        · have hkl' : ¬ (k : Int) < i := by omega
          have e : k = i := by omega
          subst e
          have hN : (X.take (k + 1)).Nodup := by
            rw [takeI X k hiX, List.nodup_append]
            refine ⟨hd, by simp, fun a ha b hb => ?_⟩
            rw [List.mem_singleton] at hb
            rw [hb, ← hy]
            exact fun e => hd2 (e ▸ ha)
          simp -dsimp [h, hkl', At, hN]
      try clear h
      rintro ⟨sl, hp, bs⟩ ⟨hN, rfl, h⟩
      simp only [zaa, zab, zad] at h
      simp -dsimp [h, At, hw, hil, vInts, hN]
    · have hil' : ¬ (i : Int) < xs.length := by omega
      have e : i = X.length := by omega
      rw [e, List.take_length] at hd
      simp -dsimp [h, hil, hil', vInts, hd]
  · rintro ⟨sl, hp', bs⟩ ⟨hd, rfl⟩
    simp -dsimp [zaY.rs, hd]
theorem zko (xs row vs : List Int) (hp : AtP xs vs) (hr : row.length = xs.length) : Pf Tryz.prog zbS.id [vInts xs, vInts row, vInts vs] (.bool (decide (row = valsAt xs vs))) := by
  have hl := hp.l
  obtain ⟨X, hX⟩ : ∃ X, X = valsAt xs vs := ⟨_, rfl⟩
  have hXl : X.length = xs.length := by rw [hX, zdk]
  refine DC.of zbS.ok (by simp) ?_
  unfold zbS.ir
  rw [← hX]
  refine zac (At [(0, vInts xs), (1, vInts row), (2, vInts vs)] []) (by simp -dsimp [At]) ?_
  try clear h
  rintro ⟨sl, hp, bs⟩ ⟨rfl, h⟩
  simp only [zaa, zab, zad] at h
  refine zac (fun st => row = X ∧ st.hp = []) ?_ ?_
  · refine zac (At [(0, vInts xs), (1, vInts row), (2, vInts vs), (7, V.i 0)] []) (by simp -dsimp [h, At]) ?_
    try clear h
    rintro ⟨sl, hp, bs⟩ ⟨rfl, h⟩
    simp only [zaa, zab, zad] at h
    refine zag (zbY 0 (by simp) xs.length (fun i st => row.take i = X.take i ∧ At [(0, vInts xs), (1, vInts row), (2, vInts vs), (7, V.i i)] [] st) ⟨by simp, rfl, by simpa using h⟩ ?_)
    clear h
    rintro i ⟨sl, hp', bs⟩ hi ⟨hd, rfl, h⟩
    simp only [zaa, zab] at h
    unfold zbS.b0
    by_cases hil : i < xs.length
    · have hil' : (i : Int) < xs.length := by omega
      have hiX : i < X.length := by omega
      have hiR : i < row.length := by omega
      have hw : IntKind.i64.wrap ((i : Int) + 1) = ((i + 1 : Nat) : Int) := by rw [wrap64] <;> omega
      refine zac (At [(0, vInts xs), (1, vInts row), (2, vInts vs), (7, V.i i)] []) (by simp -dsimp [h, At, hil, hil', vInts]) ?_
      try clear h
      rintro ⟨sl, hp, bs⟩ ⟨rfl, h⟩
      simp only [zaa, zab, zad] at h
      obtain ⟨n, hn, hnl, hnl2, hvn⟩ := hp.get hil
      obtain ⟨y, hy⟩ : ∃ y, y = X[i] := ⟨_, rfl⟩
      have hvy : vs[n] = y := by rw [hvn, hy]; simp only [hX]
      refine zac (fun st => row.take (i + 1) = X.take (i + 1) ∧ At [(0, vInts xs), (1, vInts row), (2, vInts vs), (7, V.i i)] [] st) ?_ ?_
      · refine zag ?_
        by_cases he : y = row[i]
        · have hs : row.take (i + 1) = X.take (i + 1) := by rw [takeI row i hiR, takeI X i hiX, hd, ← hy, he]
          simp -dsimp [h, hil, hil', hiR, vInts, hn, hnl, hvy, he, At, hs]
        · have hno : ¬ row = X := fun e => he (by rw [hy]; simp only [e])
          simp -dsimp [h, hil, hil', hiR, vInts, hn, hnl, hvy, he, hno, zbS.rs]
      try clear h
      rintro ⟨sl, hp, bs⟩ ⟨hN, rfl, h⟩
      simp only [zaa, zab, zad] at h
      simp -dsimp [h, At, hw, hil, vInts, hN]
    · have hil' : ¬ (i : Int) < xs.length := by omega
      have e : i = X.length := by omega
      have e2 : X.length = row.length := by omega
      rw [e, List.take_length, e2, List.take_length] at hd
      simp -dsimp [h, hil, hil', vInts, hd]
  · rintro ⟨sl, hp', bs⟩ ⟨hd, rfl⟩
    simp -dsimp [zbS.rs, hd]
end Go.Abs.G

namespace Go.Abs.G
open Go.Proofs
theorem ziE : ∀ (l : List Int), l ≠ [] → maxI l ∈ l
  | [], h => (h rfl).elim
  | [x], _ => by simp [maxI]
  | x :: y :: l, _ => by
    have := ziE (y :: l) (by simp)
    show max x (maxI (y :: l)) ∈ x :: y :: l
    rcases Int.le_total x (maxI (y :: l)) with h | h
    · rw [Int.max_eq_right h]; exact List.mem_cons_of_mem _ this
    · rw [Int.max_eq_left h]; simp
theorem zj3 : ∀ (l : List Int), ∀ x ∈ l, x ≤ maxI l
  | [], x, h => by simp at h
  | [y], x, h => by simp at h; simp [maxI, h]
  | y :: z :: l, x, h => by
    have ih := zj3 (z :: l)
    show x ≤ max y (maxI (z :: l))
    rcases List.mem_cons.1 h with h | h
    · omega
    · have := ih x h; omega
theorem ziF : ∀ (l : List Int), l ≠ [] → minI l ∈ l
  | [], h => (h rfl).elim
  | [x], _ => by simp [minI]
  | x :: y :: l, _ => by
    have := ziF (y :: l) (by simp)
    show min x (minI (y :: l)) ∈ x :: y :: l
    rcases Int.le_total x (minI (y :: l)) with h | h
    · rw [Int.min_eq_left h]; simp
    · rw [Int.min_eq_right h]; exact List.mem_cons_of_mem _ this
theorem zj8 : ∀ (l : List Int), ∀ x ∈ l, minI l ≤ x
  | [], x, h => by simp at h
  | [y], x, h => by simp at h; simp [minI, h]
  | y :: z :: l, x, h => by
    have ih := zj8 (z :: l)
    show min y (minI (z :: l)) ≤ x
    rcases List.mem_cons.1 h with h | h
    · omega
    · have := ih x h; omega
def bestB (v sign : Int) (X : List Int) : Bool := decide (v ∈ X) && X.all fun x => decide (sign * x ≤ sign * v)
theorem zjw {v : Int} {X : List Int} (h : X ≠ []) : bestB v 1 X = decide (v = maxI X) := by
  have h1 := ziE X h
  have h2 := zj3 X
  rw [Bool.eq_iff_iff]
  simp only [bestB, Bool.and_eq_true, decide_eq_true_eq, List.all_eq_true]
  constructor
  · rintro ⟨a, b⟩
    have := h2 v a
    have := b _ h1
    omega
  · rintro rfl
    exact ⟨h1, fun x hx => by have := h2 x hx; omega⟩
theorem zjx {v : Int} {X : List Int} (h : X ≠ []) : bestB v (-1) X = decide (v = minI X) := by
  have h1 := ziF X h
  have h2 := zj8 X
  rw [Bool.eq_iff_iff]
  simp only [bestB, Bool.and_eq_true, decide_eq_true_eq, List.all_eq_true]
  constructor
  · rintro ⟨a, b⟩
    have := h2 v a
    have := b _ h1
    omega
  · rintro rfl
    exact ⟨h1, fun x hx => by have := h2 x hx; omega⟩
theorem zgh (v sign : Int) (xs vs : List Int) (hp : AtP xs vs) (hg : greatB vs = false) (hv : -1000000000 ≤ v ∧ v ≤ 1000000000) (hsg : sign = 1 ∨ sign = -1) : Pf Tryz.prog zbF.id [V.i v, vInts xs, vInts vs, V.i sign] (.bool (bestB v sign (valsAt xs vs))) := by
  have hl := hp.l
  obtain ⟨X, hX⟩ : ∃ X, X = valsAt xs vs := ⟨_, rfl⟩
  have hXl : X.length = xs.length := by rw [hX, zdk]
  refine DC.of zbF.ok (by simp) ?_
  unfold zbF.ir
  rw [← hX]
  refine zac (At [(0, V.i v), (1, vInts xs), (2, vInts vs), (3, V.i sign)] []) (by simp -dsimp [At]) ?_
  try clear h
  rintro ⟨sl, hp, bs⟩ ⟨rfl, h⟩
  simp only [zaa, zab, zad] at h
  refine zac (At [(0, V.i v), (1, vInts xs), (2, vInts vs), (3, V.i sign), (9, .bool false)] []) (by simp -dsimp [h, At]) ?_
  try clear h
  rintro ⟨sl, hp, bs⟩ ⟨rfl, h⟩
  simp only [zaa, zab, zad] at h
  refine zac (At [(9, .bool (bestB v sign X))] []) ?_ ?_
  · refine zac (At [(0, V.i v), (1, vInts xs), (2, vInts vs), (3, V.i sign), (9, .bool false), (10, V.i 0)] []) (by simp -dsimp [h, At]) ?_
    try clear h
    rintro ⟨sl, hp, bs⟩ ⟨rfl, h⟩
    simp only [zaa, zab, zad] at h
    refine zag (zbY 0 (by simp) xs.length (fun i st => (X.take i).all (fun x => decide (sign * x ≤ sign * v)) = true ∧ ∃ b, b = decide (v ∈ X.take i) ∧ At [(0, V.i v), (1, vInts xs), (2, vInts vs), (3, V.i sign), (9, .bool b), (10, V.i i)] [] st) ⟨by simp, false, by simp, rfl, by simpa using h⟩ ?_)
    clear h
    rintro i ⟨sl, hp', bs⟩ hi ⟨hd, b, hb, rfl, h⟩
    simp only [zaa, zab] at h
    unfold zbF.b0
    by_cases hil : i < xs.length
    · have hil' : (i : Int) < xs.length := by omega
      have hiX : i < X.length := by omega
      have hw : IntKind.i64.wrap ((i : Int) + 1) = ((i + 1 : Nat) : Int) := by rw [wrap64] <;> omega
      refine zac (At [(0, V.i v), (1, vInts xs), (2, vInts vs), (3, V.i sign), (9, .bool b), (10, V.i i)] []) (by simp -dsimp [h, At, hil, hil', vInts]) ?_
      try clear h
      rintro ⟨sl, hp, bs⟩ ⟨rfl, h⟩
      simp only [zaa, zab, zad] at h
      obtain ⟨n, hn, hnl, hnl2, hvn⟩ := hp.get hil
      obtain ⟨y, hy⟩ : ∃ y, y = X[i] := ⟨_, rfl⟩
      have hvy : vs[n] = y := by rw [hvn, hy]; simp only [hX]
      have hyb : -1000000000 ≤ y ∧ y ≤ 1000000000 := by
        have h1 := zeE hg (x := (n : Int)) (by omega) (by omega)
        have h2 : atI vs (n : Int) = y := by rw [← hvy]; simp [atI, List.getD, List.getElem?_eq_getElem hnl2]
        rwa [h2] at h1
      have hw1 : IntKind.i64.wrap (sign * y) = sign * y := by rcases hsg with e | e <;> subst e <;> rw [wrap64] <;> omega
      have hw2 : IntKind.i64.wrap (sign * v) = sign * v := by rcases hsg with e | e <;> subst e <;> rw [wrap64] <;> omega
      have hmem : decide (v ∈ X.take (i + 1)) = (b || decide (y = v)) := by
        rw [takeI X i hiX, hb, ← hy, Bool.eq_iff_iff]
        simp only [List.mem_append, List.mem_singleton, Bool.or_eq_true, decide_eq_true_eq]
        exact ⟨fun h => h.imp id Eq.symm, fun h => h.imp id Eq.symm⟩
      refine zac (fun st => (X.take (i + 1)).all (fun x => decide (sign * x ≤ sign * v)) = true ∧ At [(0, V.i v), (1, vInts xs), (2, vInts vs), (3, V.i sign), (9, .bool (b || decide (y = v))), (10, V.i i)] [] st) ?_ ?_
      · refine zag ?_
        by_cases hgt : sign * v < sign * y
        · have hno : bestB v sign X = false := by
            unfold bestB
            have : (X.all fun x => decide (sign * x ≤ sign * v)) = false := by
              rw [List.all_eq_false]
              exact ⟨y, by rw [hy]; exact List.getElem_mem hiX, by simp; omega⟩
            rw [this, Bool.and_false]
          simp -dsimp [h, hil, hil', vInts, hn, hnl, hvy, hw1, hw2, hgt, hno, zbF.rs]
        · have hall : (X.take (i + 1)).all (fun x => decide (sign * x ≤ sign * v)) = true := by
            rw [takeI X i hiX, List.all_append, hd, ← hy]
            simp; omega
          by_cases he : y = v
          · cases b <;> simp -dsimp [h, hil, hil', vInts, hn, hnl, hvy, hw1, hw2, hgt, At, hall, he]
          · cases b <;> simp -dsimp [h, hil, hil', vInts, hn, hnl, hvy, hw1, hw2, hgt, At, hall, he]
      try clear h
      rintro ⟨sl, hp, bs⟩ ⟨hN, rfl, h⟩
      simp only [zaa, zab, zad] at h
      simp -dsimp [h, At, hw, hil, vInts, hN, hmem]
    · have hil' : ¬ (i : Int) < xs.length := by omega
      have e : i = X.length := by omega
      rw [e, List.take_length] at hd hb
      have hB : bestB v sign X = b := by unfold bestB; rw [hd, ← hb, Bool.and_true]
      simp -dsimp [h, hil, hil', vInts, hB, At]
  try clear h
  rintro ⟨sl, hp, bs⟩ ⟨rfl, h⟩
  simp only [zaa, zab, zad] at h
  simp -dsimp [h, zbF.rs]
theorem zhR (c : Con) (vs : List Int) (hp : AtP c.xs vs) (hl : c.rows.length ≤ maxLen) (hr : ∀ r ∈ c.rows, r.length = c.xs.length) : Pf Tryz.prog zbj.id [.agg c.cells, vInts vs] (.bool (c.rows.any fun r => decide (r = valsAt c.xs vs))) := by
  have hM : (maxLen : Int) ≤ 9223372036854775807 := by decide
  obtain ⟨X, hX⟩ : ∃ X, X = valsAt c.xs vs := ⟨_, rfl⟩
  refine DC.of zbj.ok (by simp) ?_
  unfold zbj.ir
  rw [← hX]
  refine zac (At [(1, vInts vs), (2, .ptr 0 1 0 0)] [.mem false [] [c.cells]]) (by simp -dsimp [At]) ?_
  try clear h
  rintro ⟨sl, hp, bs⟩ ⟨rfl, h⟩
  simp only [zaa, zab, zad] at h
  refine zac (fun st => (c.rows.any fun r => decide (r = X)) = false ∧ At [] [.mem false [] [c.cells]] st) ?_ ?_
  · refine zac (At [(1, vInts vs), (2, .ptr 0 1 0 0), (5, V.i 0)] [.mem false [] [c.cells]]) (by simp -dsimp [h, At]) ?_
    try clear h
    rintro ⟨sl, hp, bs⟩ ⟨rfl, h⟩
    simp only [zaa, zab, zad] at h
    refine zag (zbY 1 (by simp) c.rows.length (fun i st => ((c.rows.take i).any fun r => decide (r = X)) = false ∧ At [(1, vInts vs), (2, .ptr 0 1 0 0), (5, V.i i)] [.mem false [] [c.cells]] st) ⟨by simp, rfl, by simpa using h⟩ ?_)
    clear h
    rintro i ⟨sl, hp', bs⟩ hi ⟨hd, rfl, h⟩
    simp only [zaa, zab] at h
    unfold zbj.b0
    by_cases hil : i < c.rows.length
    · have hil' : (i : Int) < c.rows.length := by omega
      have hw : IntKind.i64.wrap ((i : Int) + 1) = ((i + 1 : Nat) : Int) := by rw [wrap64] <;> omega
      refine zac (At [(1, vInts vs), (2, .ptr 0 1 0 0), (5, V.i i)] [.mem false [] [c.cells]]) (by simp -dsimp [h, At, hil, hil', Con.cells, vIntss]) ?_
      try clear h
      rintro ⟨sl, hp, bs⟩ ⟨rfl, h⟩
      simp only [zaa, zab, zad] at h
      have hrow := zko c.xs c.rows[i] vs hp (hr _ (List.getElem_mem hil))
      rw [← hX] at hrow
      refine zac (fun st => ((c.rows.take (i + 1)).any fun r => decide (r = X)) = false ∧ At [(1, vInts vs), (2, .ptr 0 1 0 0), (5, V.i i)] [.mem false [] [c.cells]] st) ?_ ?_
      · refine zag ?_
        simp -dsimp [h, hil, hil', Con.cells, vIntss]
        refine gcall (hrow) (by simp -dsimp [h, hil, Con.cells, vIntss, vInts]) (by simp -dsimp [h, hil, Con.cells, vIntss, vInts]) ?_
        simp -dsimp [h, hil, Con.cells, vIntss, vInts]
        by_cases he : c.rows[i] = X
        · have hG : (c.rows.any fun r => decide (r = X)) = true := by
            rw [List.any_eq_true]
            exact ⟨_, List.getElem_mem hil, by simp [he]⟩
          simp -dsimp [h, he, hG, zbj.rs]
        · have hG : ((c.rows.take (i + 1)).any fun r => decide (r = X)) = false := by
            rw [takeI c.rows i hil, List.any_append, hd]
            simp [he]
          simp -dsimp [h, he, hG, At, Con.cells, vIntss, vInts]
      try clear h
      rintro ⟨sl, hp, bs⟩ ⟨hN, rfl, h⟩
      simp only [zaa, zab, zad] at h
      simp -dsimp [h, At, hw, hil, vInts, hN]
    · have hil' : ¬ (i : Int) < c.rows.length := by omega
      have e : i = c.rows.length := by omega
      rw [e, List.take_length] at hd
      simp -dsimp [h, hil, hil', Con.cells, vIntss, hd, At]
  try clear h
  rintro ⟨sl, hp, bs⟩ ⟨hd, rfl, h⟩
  simp only [zaa, zab, zad] at h
  simp -dsimp [h, zbj.rs, hd]
theorem zgF (c : Con) (vs : List Int) (hp : AtP c.xs vs) (hop : 1 ≤ c.op ∧ c.op ≤ 3) : Pf Tryz.prog zba.id [.agg c.cells, vInts vs] (.bool (opB c.op ((c.xs.filter fun x => decide (atI vs x = c.v)).length) c.k)) := by
  have hl := hp.l
  refine DC.of zba.ok (by simp) ?_
  unfold zba.ir
  obtain ⟨N, hN⟩ : ∃ N : Nat, N = (c.xs.filter fun x => decide (atI vs x = c.v)).length := ⟨_, rfl⟩
  rw [← hN]
  refine zac (At [(1, vInts vs), (2, .ptr 0 1 0 0)] [.mem false [] [c.cells]]) (by simp -dsimp [At]) ?_
  try clear h
  rintro ⟨sl, hp, bs⟩ ⟨rfl, h⟩
  simp only [zaa, zab, zad] at h
  refine zac (At [(1, vInts vs), (2, .ptr 0 1 0 0), (5, V.i 0)] [.mem false [] [c.cells]]) (by simp -dsimp [h, At]) ?_
  try clear h
  rintro ⟨sl, hp, bs⟩ ⟨rfl, h⟩
  simp only [zaa, zab, zad] at h
  refine zac (At [(1, vInts vs), (2, .ptr 0 1 0 0), (5, V.i N)] [.mem false [] [c.cells]]) ?_ ?_
  · refine zac (At [(1, vInts vs), (2, .ptr 0 1 0 0), (5, V.i 0), (6, V.i 0)] [.mem false [] [c.cells]]) (by simp -dsimp [h, At]) ?_
    try clear h
    rintro ⟨sl, hp, bs⟩ ⟨rfl, h⟩
    simp only [zaa, zab, zad] at h
    refine zag (zbY 1 (by simp) c.xs.length (fun i st => ∃ k : Nat, k = ((c.xs.take i).filter fun x => decide (atI vs x = c.v)).length ∧ At [(1, vInts vs), (2, .ptr 0 1 0 0), (5, V.i k), (6, V.i i)] [.mem false [] [c.cells]] st) ⟨0, by simp, rfl, by simpa using h⟩ ?_)
    clear h
    rintro i ⟨sl, hp', bs⟩ hi ⟨k, hk, rfl, h⟩
    simp only [zaa, zab] at h
    unfold zba.b0
    by_cases hil : i < c.xs.length
    · have hil' : (i : Int) < c.xs.length := by omega
      have hw : IntKind.i64.wrap ((i : Int) + 1) = ((i + 1 : Nat) : Int) := by rw [wrap64] <;> omega
      have hkl : k ≤ i := by
        have := List.length_filter_le (fun x => decide (atI vs x = c.v)) (c.xs.take i)
        simp at this; omega
      have hwk : IntKind.i64.wrap ((k : Int) + 1) = ((k + 1 : Nat) : Int) := by rw [wrap64] <;> omega
      refine zac (At [(1, vInts vs), (2, .ptr 0 1 0 0), (5, V.i k), (6, V.i i)] [.mem false [] [c.cells]]) (by simp -dsimp [h, At, hil, hil', Con.cells, vInts]) ?_
      try clear h
      rintro ⟨sl, hp, bs⟩ ⟨rfl, h⟩
      simp only [zaa, zab, zad] at h
      obtain ⟨n, hn, hnl, hnl2, hvn⟩ := hp.get hil
      have hy : (valsAt c.xs vs)[i]'(by rw [zdk]; exact hil) = atI vs (n : Int) := by simp [valsAt, hn]
      rw [hy] at hvn
      by_cases he : atI vs (n : Int) = c.v
      · have hs : ((c.xs.take (i + 1)).filter fun x => decide (atI vs x = c.v)).length = k + 1 := by
          rw [takeI c.xs i hil, List.filter_append, List.length_append, ← hk]
          simp [hn, he]
        refine zac (At [(1, vInts vs), (2, .ptr 0 1 0 0), (5, V.i (k + 1 : Nat)), (6, V.i i)] [.mem false [] [c.cells]]) (by refine zag ?_; simp -dsimp [h, hil, hil', Con.cells, vInts, hn, hnl, hvn, he, hwk, At]) ?_
        try clear h
        rintro ⟨sl, hp, bs⟩ ⟨rfl, h⟩
        simp only [zaa, zab, zad] at h
        simp -dsimp [h, At, hw, hil, vInts, hs]
      · have hs : ((c.xs.take (i + 1)).filter fun x => decide (atI vs x = c.v)).length = k := by
          rw [takeI c.xs i hil, List.filter_append, List.length_append, ← hk]
          simp [hn, he]
        refine zac (At [(1, vInts vs), (2, .ptr 0 1 0 0), (5, V.i k), (6, V.i i)] [.mem false [] [c.cells]]) (by refine zag ?_; simp -dsimp [h, hil, hil', Con.cells, vInts, hn, hnl, hvn, he, hwk, At]) ?_
        try clear h
        rintro ⟨sl, hp, bs⟩ ⟨rfl, h⟩
        simp only [zaa, zab, zad] at h
        simp -dsimp [h, At, hw, hil, vInts, hs]
    · have hil' : ¬ (i : Int) < c.xs.length := by omega
      have e : i = c.xs.length := by omega
      rw [e, List.take_length, ← hN] at hk
      simp -dsimp [h, hil, hil', Con.cells, vInts, At, hk]
  try clear h
  rintro ⟨sl, hp, bs⟩ ⟨rfl, h⟩
  simp only [zaa, zab, zad] at h
  have hlin := zfc c.op N c.k hop
  simp -dsimp [h, Con.cells]
  refine gcall (hlin) (by simp -dsimp [h, Con.cells, zba.rs]) (by simp -dsimp [h, Con.cells, zba.rs]) ?_
  simp -dsimp [h, Con.cells, zba.rs]
end Go.Abs.G
