import Derived.Test.YtkfpoacloidepaaAbsG
import Derived.MapKept
import Derived.Laws.StructEq
set_option linter.all false
/- Operations that leave memory alone: maps read, structs compared, bytes as text. -/
namespace Go.Abs
set_option linter.unusedVariables false

def putE : List (V × V) → V → V → List (V × V)
  | [], key, v => [(key, v)]
  | e :: l, key, v => if e.1.num == key.num then (e.1, v) :: l else e :: putE l key v

section
variable {P : Program} {w : World} {H : Heap} {β : Nat → Hd} {F : Nat → Prop}

theorem map_get {id : Nat} (h : (H.getD id .dead).isMap = true) : ∃ fz refs es, H[id]? = some (.map fz refs es) ∧ (H.getD id .dead).ents = es := by
  cases hid : H[id]? with
  | none => simp [List.getD, hid, O.isMap] at h
  | some o =>
    have hgd : H.getD id .dead = o := getD_some hid
    rw [hgd] at h ⊢
    cases o with
    | map fz refs rows => exact ⟨_, _, _, rfl, rfl⟩
    | _ => simp [O.isMap] at h

theorem RV.mapv {v : Value} {x : V} (hk : HOK w.heap H β F) (hr : RV (cx w.heap H β F) v x) (ho : okMp H x) :
    (v = .map none ∧ x.entsOf H = []) ∨ ∃ b ents clock, v = .map (some b) ∧ w.heap[b]? = some (.map ents clock) ∧ ents.size = (x.entsOf H).length ∧
      ∀ (i : Nat) (e : MapEntry) (y : V × V), ents[i]? = some e → (x.entsOf H)[i]? = some y → RV (cx w.heap H β F) e.key y.1 ∧ RV (cx w.heap H β F) e.val y.2 := by
  cases hr with
  | mp hl h =>
    rename_i id
    obtain ⟨fz, refs, es, hid, he⟩ := map_get (show (H.getD id .dead).isMap = true from ho)
    right
    obtain ⟨q1, ents, clock, q2, q3, q4, q5, q6⟩ := hk.ro id _ hid
    refine ⟨(β id).b, ents, clock, h ((β id).wt 0) (by show hdOf H β id = _; simp [hdOf, hid]) rfl, q2, ?_, fun i e y h1 h2 => ?_⟩
    · show ents.size = ((H.getD id .dead).ents).length
      rw [he]; exact q3
    · have h2 : ((H.getD id .dead).ents)[i]? = some y := h2
      rw [he] at h2
      exact ⟨(q6 i e y h1 h2).1.up, (q6 i e y h1 h2).2.up⟩
  | mview hb hm hl hkk hv => exact .inr ⟨_, _, _, rfl, hm, hl, fun i e y h1 h2 => ⟨(hkk i e y h1 h2).up, (hv i e y h1 h2).up⟩⟩
  | a =>
    left
    cases v with
    | map b =>
      cases b with
      | none => exact ⟨rfl, rfl⟩
      | some b => exact ho.elim
    | _ => exact ho.elim
  | _ => exact ho.elim

theorem RV.key {c : Cx} {v : Value} {x : V} {k : IntKind} (h : RV c v x) (hk : x.isKey k = true) : v = .int k x.num ∧ x = .a (.int k x.num) := by
  cases x with
  | a u =>
    have := h.of_a
    subst this
    cases v <;> simp [V.isKey] at hk
    subst hk
    exact ⟨rfl, rfl⟩
  | _ => simp [V.isKey] at hk

theorem findNow_ents {c : Cx} {k : IntKind} {n : Int} : ∀ (es : List MapEntry) (xs : List (V × V)) (i0 : Nat), es.length = xs.length →
    (∀ (i : Nat) (e : MapEntry) (y : V × V), es[i]? = some e → xs[i]? = some y → RV c e.key y.1 ∧ RV c e.val y.2) → (∀ y ∈ xs, y.1.isKey k = true) →
    (Instr.findNow (.int k) (.int k n) es i0 = some none ∧ getE xs n = none ∧ (∀ key v : V, key.num = n → putE xs key v = xs ++ [(key, v)])) ∨
    ∃ j e y, Instr.findNow (.int k) (.int k n) es i0 = some (some (i0 + j, e.val)) ∧ es[j]? = some e ∧ xs[j]? = some y ∧ e.key = .int k n ∧ getE xs n = some y.2 ∧ ∀ key v : V, key.num = n → putE xs key v = xs.set j (y.1, v) := by
  intro es
  induction es with
  | nil =>
    intro xs i0 hl _ _
    obtain rfl : xs = [] := List.eq_nil_of_length_eq_zero hl.symm
    exact .inl ⟨rfl, rfl, fun key v _ => rfl⟩
  | cons e es ih =>
    intro xs i0 hl h hk
    cases xs with
    | nil => simp at hl
    | cons y xs =>
      obtain ⟨h1, h2⟩ := h 0 e y rfl rfl
      have hky := hk y (by simp)
      obtain ⟨e1, e2⟩ := h1.key hky
      have hs : Instr.sameNow (.int k) (.int k n) e.key = some (n == y.1.num) := by rw [e1]; simp [Instr.sameNow]
      by_cases hn : y.1.num = n
      · right
        refine ⟨0, e, y, ?_, rfl, rfl, by rw [e1, hn], ?_, fun key v hkv => ?_⟩
        · unfold Instr.findNow
          rw [hs, hn]; simp
        · simp [getE, hn]
        · simp [putE, hn, hkv]
      · have hs' : Instr.findNow (.int k) (.int k n) (e :: es) i0 = Instr.findNow (.int k) (.int k n) es (i0 + 1) := by
          rw [Instr.findNow, hs, show (n == y.1.num) = false from by simp; omega]
        have hn' : (y.1.num == n) = false := by simpa using hn
        have hg : getE (y :: xs) n = getE xs n := by simp [getE, hn']
        rcases ih xs (i0 + 1) (by simpa using hl) (fun i e y a b => h (i + 1) e y (by simpa using a) (by simpa using b)) (fun z hz => hk z (by simp [hz])) with ⟨g1, g2, g3⟩ | ⟨j, e', y', g1, g2, g3, g4, g5, g6⟩
        · exact .inl ⟨hs'.trans g1, hg.trans g2, fun key v hkv => by simp [putE, hkv, hn', g3 key v hkv]⟩
        · refine .inr ⟨j + 1, e', y', ?_, by simpa using g2, by simpa using g3, g4, hg.trans g5, fun key v hkv => ?_⟩
          · rw [hs', g1, show i0 + 1 + j = i0 + (j + 1) from by omega]
          · simp [putE, hkv, hn', g6 key v hkv]

theorem run_checkKey_int {kt : TypeId} {k : IntKind} {v : Value} {e : Bool} {n : Nat} (h : P.underlying kt = some (.int k)) : (Instr.checkKey e (n + 1) kt v).run P w = .ok () w := by
  simp only [Instr.checkKey, Sem.run_bind, run_underlying' h, Result.andThen_ok]
  cases v <;> simp

theorem run_getMap {b : Nat} {ents : Array MapEntry} {clock : Nat} (h : w.heap[b]? = some (.map ents clock)) : (getObj b).run P w = .ok (.map ents clock) w := MapKept.run_getObj_map h

theorem run_findKey_int {c : Cx} {kt : TypeId} {k : IntKind} {n : Int} {ents : Array MapEntry} {r : Option (Nat × Value)} (hu : P.underlying kt = some (.int k)) (h : Instr.findNow (.int k) (.int k n) ents.toList 0 = some r) :
    (Instr.findKey kt (.int k n) ents.toList).run P w = .ok r w := by
  simp only [Instr.findKey, Sem.run_bind, run_underlying' hu, Result.andThen_ok, h, Sem.run_pure]

theorem run_lookup {mt kt et : TypeId} {k : IntKind} {inf : TypeInfo} {z v : Value} {zv x key : V} {kv : Value} {ok : Bool} (hk : HOK w.heap H β F) (hm : P.underlying mt = some (.map kt et)) (hkt : P.underlying kt = some (.int k))
    (hi : P.info? et = some inf) (hz : inf.zero = some z) (rz : RV (cx w.heap H β F) z zv) (hr : RV (cx w.heap H β F) v x) (ho : okMp H x) (hks : ∀ e ∈ x.entsOf H, e.1.isKey k = true) (hkr : RV (cx w.heap H β F) kv key) (hkk : key.isKey k = true) :
    ∃ r, (Instr.lookup mt v kv ok).run P w = .ok r w ∧ RV (cx w.heap H β F) r (match getE (x.entsOf H) key.num with
      | some v => if ok then .tup [v, .bool true] else v
      | none => if ok then .tup [zv, .bool false] else zv) := by
  obtain ⟨rfl, _⟩ := hkr.key hkk
  have pair : ∀ {u : Value} {y : V} {b : Bool}, RV (cx w.heap H β F) u y → RV (cx w.heap H β F) (if ok then .tuple #[u, .bool b] else u) (if ok then .tup [y, .bool b] else y) := by
    intro u y b h
    cases ok
    · exact h
    · refine .tup rfl fun i u' y' h1 h2 => ?_
      match i with
      | 0 => simp at h1 h2; subst h1; subst h2; exact h
      | 1 => simp at h1 h2; subst h1; subst h2; exact .a
      | i + 2 => simp at h1
  rcases hr.mapv hk ho with ⟨rfl, he⟩ | ⟨b, ents, clock, rfl, hb, hl, hes⟩
  · rw [he]
    refine ⟨if ok then .tuple #[z, .bool false] else z, ?_, pair rz⟩
    simp only [Instr.lookup, Sem.run_bind, run_underlying' hm, Result.andThen_ok, Sem.run_pure, run_checkKey_int hkt]
    rw [run_findKey_int (c := cx w.heap H β F) hkt (r := none) (by rfl)]
    simp only [Result.andThen_ok, Sem.run_bind, run_zeroValue' hi hz, Sem.run_pure]
  · rcases findNow_ents (n := key.num) ents.toList (x.entsOf H) 0 (by simpa using hl) (fun i e y a c => hes i e y (by simpa using a) c) hks with ⟨g1, g2, _⟩ | ⟨j, e, y, g1, g2, g3, _, g5, _⟩
    · rw [g2]
      refine ⟨if ok then .tuple #[z, .bool false] else z, ?_, pair rz⟩
      simp only [Instr.lookup, Sem.run_bind, run_underlying' hm, Result.andThen_ok, Sem.run_pure, run_checkKey_int hkt, run_getMap hb]
      rw [run_findKey_int (c := cx w.heap H β F) hkt g1]
      simp only [Result.andThen_ok, Sem.run_bind, run_zeroValue' hi hz, Sem.run_pure]
    · rw [g5]
      refine ⟨if ok then .tuple #[e.val, .bool true] else e.val, ?_, pair (hes j e y (by simpa using g2) g3).2⟩
      simp only [Instr.lookup, Sem.run_bind, run_underlying' hm, Result.andThen_ok, Sem.run_pure, run_checkKey_int hkt, run_getMap hb]
      rw [run_findKey_int (c := cx w.heap H β F) hkt g1]
      simp only [Result.andThen_ok, Sem.run_bind, Sem.run_pure]

theorem run_len_map {mt kt et : TypeId} {v : Value} {x : V} {ats : Array TypeId} {ty : TypeId} {args : Array Value} (hk : HOK w.heap H β F) (h0 : ats[0]? = some mt) (h1 : args[0]? = some v) (hm : P.underlying mt = some (.map kt et)) (hr : RV (cx w.heap H β F) v x) (ho : okMp H x) :
    (Builtin.len_ ats ty args).run P w = .ok (.int .i64 (x.entsOf H).length) w := by
  rcases hr.mapv hk ho with ⟨rfl, he⟩ | ⟨b, ents, clock, rfl, hb, hl, hes⟩
  · rw [he]
    simp only [Builtin.len_, Sem.run_bind, h0, h1, run_underlying' hm, Result.andThen_ok, Sem.run_pure]; rfl
  · simp only [Builtin.len_, Sem.run_bind, h0, h1, run_underlying' hm, Result.andThen_ok, Sem.run_pure, run_getMap hb, hl]; rfl

/-! Structs compared. -/

theorem part_one {t : TypeId} {i : TypeInfo} {vs : Array Value} {off : Nat} {u : Value} (hi : P.info? t = some i) (hs : i.size = 1) (ha : isAggP P t = some false) (hu : vs[off]? = some u) : (part t vs off).run P w = .ok u w := by
  have hlt : off < vs.size := (Array.getElem?_eq_some_iff.1 hu).1
  unfold part
  simp only [Sem.run_bind, run_isAgg ha, Result.andThen_ok, run_sizeOf' hi]
  simp [hs, hu]

theorem run_eqFields {c : Cx} {xs ys : Array Value} {cs ds : List V} (hx : ∀ (i : Nat) (v : Value) (x : V), xs[i]? = some v → cs[i]? = some x → RV c v x) (hy : ∀ (i : Nat) (v : Value) (x : V), ys[i]? = some v → ds[i]? = some x → RV c v x)
    (lx : xs.size = cs.length) (ly : ys.size = ds.length) : ∀ (fs : List Field) (offs : List (Nat × Nat)), fs.mapM (cmpEqF P) = some offs → (∀ o ∈ offs, isK o.2 (cs.getD o.1 .any) (ds.getD o.1 .any) = true) →
    (Op.eqFields 9999 xs ys fs).run P w = .ok (offs.all fun o => eqK (cs.getD o.1 .any) (ds.getD o.1 .any)) w := by
  intro fs
  induction fs with
  | nil => intro offs h _; simp at h; subst h; rfl
  | cons f fs ih =>
    intro offs h hk
    rw [List.mapM_cons] at h
    simp only [bind, Option.bind_eq_some_iff, pure, Option.some.injEq] at h
    obtain ⟨o, ho, offs', h2, rfl⟩ := h
    have hk0 := hk o (by simp)
    have ih' := ih offs' h2 fun o' h' => hk o' (by simp [h'])
    have vals : ∀ {off : Nat} {u : V} {L : List V} {zs : Array Value}, (∀ (i : Nat) (v : Value) (x : V), zs[i]? = some v → L[i]? = some x → RV c v x) → zs.size = L.length → L.getD off .any = u → u ≠ .any → ∃ v, zs[off]? = some v ∧ RV c v u := by
      intro off u L zs h hl e hu
      have hlt : off < L.length := by
        refine Nat.lt_of_not_le fun hle => hu ?_
        rw [← e]; simp [List.getD, List.getElem?_eq_none hle]
      have hz : zs[off]? = some (zs[off]'(by omega)) := by simp [hl, hlt]
      exact ⟨_, hz, by rw [← e]; exact h off _ _ hz (get_of_getD hlt)⟩
    unfold cmpEqF at ho
    split at ho
    · cases ho
    · next hname =>
    have fin : ∀ {tt : TypeDesc} {inf : TypeInfo} {u v : Value} {b : Bool}, P.underlying f.type = some tt → isAggP P f.type = some false → P.info? f.type = some inf → inf.size = 1 → xs[o.1]? = some u → ys[o.1]? = some v → o.1 = f.offset →
        (Op.equalIn 9999 f.type u v).run P w = .ok b w → b = eqK (cs.getD o.1 .any) (ds.getD o.1 .any) →
        (Op.eqFields 9999 xs ys (f :: fs)).run P w = .ok ((o :: offs').all fun o => eqK (cs.getD o.1 .any) (ds.getD o.1 .any)) w := by
      intro tt inf u v b _ ha hi hs hu hv ho1 he hb
      rw [ho1] at hu hv
      simp only [Op.eqFields, ne_eq, hname, not_false_eq_true, if_true, Sem.run_bind, part_one hi hs ha hu, part_one hi hs ha hv, Result.andThen_ok, he, List.all_cons, ← hb]
      cases b
      · simp
      · simp [ih']
    split at ho
    · next k hu =>
      simp only [Option.bind_eq_some_iff] at ho
      obtain ⟨inf, hi, ho⟩ := ho
      split at ho
      · next hs =>
        cases ho
        have hk1 := hk0
        unfold isK at hk1
        split at hk1 <;> first | cases hk1 | skip
        · next k1 n1 k2 n2 e0 e1 e2 =>
          simp only [decide_eq_true_eq] at hk1
          subst hk1
          obtain ⟨u, a1, a2⟩ := vals hx lx e1 (by simp)
          obtain ⟨v, b1, b2⟩ := vals hy ly e2 (by simp)
          cases a2.of_a; cases b2.of_a
          refine fin hu (by simp [isAggP, hu]) hi hs a1 b1 rfl (run_equalIn_int (P := P) w 9998 f.type k1 k n1 n2 hu) ?_
          rw [e1, e2]; rfl
        · next e0 _ _ => cases e0
        · next e0 _ _ => cases e0
      · cases ho
    · next hu =>
      simp only [Option.bind_eq_some_iff] at ho
      obtain ⟨inf, hi, ho⟩ := ho
      split at ho
      · next hs =>
        cases ho
        have hk1 := hk0
        unfold isK at hk1
        split at hk1 <;> first | cases hk1 | skip
        · next e0 _ _ => cases e0
        · next e0 e1 e2 =>
          obtain ⟨u, a1, a2⟩ := vals hx lx e1 (by simp)
          obtain ⟨v, b1, b2⟩ := vals hy ly e2 (by simp)
          cases a2.of_a; cases b2.of_a
          refine fin hu (by simp [isAggP, hu]) hi hs a1 b1 rfl (run_equalIn_string (P := P) w 9998 f.type _ _ hu) ?_
          rw [e1, e2]; rfl
        · next e0 _ _ => cases e0
      · cases ho
    · next hu =>
      simp only [Option.bind_eq_some_iff] at ho
      obtain ⟨inf, hi, ho⟩ := ho
      split at ho
      · next hs =>
        cases ho
        have hk1 := hk0
        unfold isK at hk1
        split at hk1 <;> first | cases hk1 | skip
        · next e0 _ _ => cases e0
        · next e0 _ _ => cases e0
        · next e0 e1 e2 =>
          obtain ⟨u, a1, a2⟩ := vals hx lx e1 (by simp)
          obtain ⟨v, b1, b2⟩ := vals hy ly e2 (by simp)
          cases a2.of_a; cases b2.of_a
          refine fin hu (by simp [isAggP, hu]) hi hs a1 b1 rfl (run_equalIn_bool' (P := P) w 9998 f.type _ _ hu) ?_
          rw [e1, e2]; rfl
      · cases ho
    · cases ho

theorem run_binOp_structEq {t : TypeId} {fs : Array Field} {c : Cx} {u v : Value} {x y : V} {offs : List (Nat × Nat)} (neg : Bool) (hu : P.underlying t = some (.struct fs)) (hp : P.stoodInHeld t = false) (hf : fs.toList.mapM (cmpEqF P) = some offs)
    (h : match x, y with | .agg cs, .agg ds => ∀ o ∈ offs, isK o.2 (cs.getD o.1 .any) (ds.getD o.1 .any) = true | _, _ => False) (rx : RV c u x) (ry : RV c v y) :
    (∃ xs ys, u = .agg xs ∧ v = .agg ys) ∧ (binOp (if neg then .neq else .eql) t u v).run P w = .ok (.bool ((offs.all fun o => eqK (x.cells.getD o.1 .any) (y.cells.getD o.1 .any)) ^^ neg)) w := by
  cases x with
  | agg cs =>
    cases y with
    | agg ds =>
      obtain ⟨xs, rfl, lx, hx, _⟩ := rx.of_agg
      obtain ⟨ys, rfl, ly, hy, _⟩ := ry.of_agg
      have hfo : P.fieldsOf t = fs := by simp [Program.fieldsOf, hu]
      have := run_eqFields (P := P) (w := w) hx hy lx ly fs.toList offs hf h
      have e : (Op.equalIn 10000 t (.agg xs) (.agg ys)).run P w = .ok (offs.all fun o => eqK (cs.getD o.1 .any) (ds.getD o.1 .any)) w := by
        rw [run_equalIn_struct w 9999 t xs ys (by rw [hfo]; exact hu) hp, hfo]; exact this
      refine ⟨⟨_, _, rfl, rfl⟩, ?_⟩
      cases neg
      · simp only [Bool.false_eq_true, if_false, run_eql_struct, e, Result.andThen_ok, V.cells, Bool.xor_false]
      · simp only [if_true, run_neq_struct, e, Result.andThen_ok, V.cells, Bool.xor_true]
    | _ => exact h.elim
  | _ => exact h.elim

/-! Bytes as text. -/

theorem RV.bytes {v : Value} {x : V} (hk : HOK w.heap H β F) (hr : RV (cx w.heap H β F) v x) (ho : okSl H x) (he : x.slEs 1) (hb : ∀ r ∈ x.rowsOf H, (r.headD .any).isByte = true) :
    (Conv.bytesToString v).run P w = .ok (.string (bytesOf (x.rowsOf H))) w := by
  obtain ⟨base, len, cap, rfl, h1, h2, h3, h4⟩ := hr.sl hk ho
  have hcell : ∀ i, i < len → ∃ ad row, base = some ad ∧ (x.rowsOf H)[i]? = some row ∧ w.cell? (ad.add i) = some (.int .u8 (row.headD .any).num) := by
    intro i hi
    obtain ⟨ad, e, r⟩ := h4 1 he i hi
    rw [Nat.mul_one] at r
    have hel : okAt H (x.elemAt i) ∧ ∃ row, (x.rowsOf H)[i]? = some row ∧ cellsAt H (x.elemAt i) = row.drop 0 := by
      cases x with
      | own id es off len' tot =>
        obtain ⟨o1, o2⟩ := ho
        have hl : len = len' := by simp only [V.slLen] at h1; omega
        obtain ⟨fz, refs, rows, hid, hrw⟩ := mem_get o1
        have hlt : off + i < rows.length := by
          rw [hrw] at o2
          cases hr with
          | own hl' h =>
            obtain ⟨g1, g2⟩ := h ((β id).wt rows.length) (by show hdOf H β id = _; simp [hdOf, hid])
            obtain ⟨_, _, g5⟩ := g2 o2
            rcases g5 with ⟨_, _, g⟩ | ⟨_, _, _, g, _⟩
            · omega
            · have : off + len' ≤ rows.length := g
              omega
        refine ⟨⟨o1, o2, ?_⟩, (H.getD id .dead).rows.getD (off + i) [], ?_, rfl⟩
        · rw [← o2, hrw]; exact hlt
        · simp only [V.rowsOf, List.getElem?_take, List.getElem?_drop]
          rw [if_pos (by omega), hrw]; exact get_of_getD hlt
      | view es rows =>
        have hl : len = rows.length := by simp only [V.slLen] at h1; omega
        exact ⟨trivial, rows.getD i [], get_of_getD (show i < rows.length by omega), rfl⟩
      | a u =>
        exfalso
        have : V.slLen (.a u) = 0 := rfl
        omega
      | _ => exact ho.elim
    obtain ⟨hok, row, hrow, hcells⟩ := hel
    obtain ⟨b, o, e2, hc⟩ := r.cells hk hok
    have hbyte := hb row (List.mem_of_getElem? hrow)
    cases row with
    | nil => simp [V.isByte] at hbyte
    | cons y row =>
      obtain ⟨u, g1, _, g3⟩ := hc 0 y (by rw [hcells]; rfl)
      simp only [Value.pointer.injEq, Option.some.injEq] at e2
      refine ⟨ad, _, e, hrow, ?_⟩
      rw [e2, cell?_look]
      rw [Nat.add_zero] at g1
      rw [g1]
      simp only [List.headD_cons] at hbyte ⊢
      unfold V.isByte at hbyte
      split at hbyte
      · rw [g3.of_a]; rfl
      · cases hbyte
  have hlen : (x.rowsOf H).length = len := by
    cases x with
    | own id es off len' tot =>
      have hl : len = len' := by simp only [V.slLen] at h1; omega
      subst hl
      by_cases h0 : len = 0
      · subst h0; simp [V.rowsOf]
      · obtain ⟨_, row, _, hrow, _⟩ := hcell (len - 1) (by omega)
        have := lt_of_get hrow
        have h2 : (V.rowsOf H (.own id es off len tot)).length ≤ len := by simp [V.rowsOf]; omega
        omega
    | view es rows => simp only [V.slLen] at h1; simp only [V.rowsOf]; omega
    | a u =>
      have : V.slLen (.a u) = 0 := rfl
      simp only [V.rowsOf, List.length_nil]; omega
    | _ => exact ho.elim
  cases base with
  | none =>
    have : len = 0 := by
      refine Nat.eq_zero_of_not_pos fun hp => ?_
      obtain ⟨ad, _, e, _⟩ := hcell 0 hp
      cases e
    have : x.rowsOf H = [] := List.eq_nil_of_length_eq_zero (by omega)
    rw [this]
    rfl
  | some ad =>
    have hrun := run_loadCells (P := P) w ad len (fun i => .int .u8 (((x.rowsOf H).getD i []).headD .any).num) (fun i hi => by
      obtain ⟨ad', row, e, hrow, hc⟩ := hcell i hi
      injection e with e; subst e
      rw [hc, getD_some hrow])
    simp only [Conv.bytesToString, Sem.run_bind, hrun, Result.andThen_ok]
    have hloop : ∀ (l : List (List V)) (acc : ByteArray), ((forIn (m := Sem) (l.map fun r => Value.int .u8 (r.headD .any).num) acc fun c s => do
        let .int .u8 n := c | stuck "bytesToString: byte expected"
        let s := s.push (UInt8.ofNat n.toNat)
        pure (ForInStep.yield s)).run P w) = .ok (⟨acc.data ++ (bytesOf l).data⟩) w := by
      intro l
      induction l with
      | nil => intro acc; simp [bytesOf]
      | cons r l ih =>
        intro acc
        simp only [List.map_cons, List.forIn_cons, Sem.run_bind, Sem.run_pure, Result.andThen_ok]
        rw [ih]
        congr 1
        simp [bytesOf, ByteArray.push]
    have hl2 : ((List.range len).map fun i => Value.int .u8 (((x.rowsOf H).getD i []).headD .any).num) = (x.rowsOf H).map fun r => Value.int .u8 (r.headD .any).num := by
      apply List.ext_getElem?
      intro i
      simp only [List.getElem?_map]
      by_cases hi : i < len
      · rw [List.getElem?_range hi, get_of_getD (l := x.rowsOf H) (d := []) (by omega)]; rfl
      · rw [List.getElem?_eq_none (by simp; omega), List.getElem?_eq_none (l := x.rowsOf H) (by omega)]; rfl
    rw [hl2]
    have := hloop (x.rowsOf H) ByteArray.empty
    simp only [List.forIn_toArray] 
    refine Eq.trans (congrArg (fun r => Result.andThen r fun a w' => Sem.run P (pure (Value.string a)) w') ?_) (b := Result.andThen (.ok ⟨ByteArray.empty.data ++ (bytesOf (x.rowsOf H)).data⟩ w) fun a w' => Sem.run P (pure (Value.string a)) w') ?_
    · rw [← this]
      congr 2
    · have hb0 : ∀ b : ByteArray, (⟨ByteArray.empty.data ++ b.data⟩ : ByteArray) = b := fun b => by
        have : ByteArray.empty.data = #[] := rfl
        rw [this, Array.empty_append]
      rw [hb0]; rfl

theorem eqGuard_z {op : BinOp} {t : TypeId} {x y : Operand} {u : Value} {kd : Nat} (h : (∃ p, u = .pointer p) ∨ (∃ m, u = .map m) ∨ u = .nilFunc ∨ ∃ f a b, u = .func f a b) {v : Value} : (eqGuard op t x y u v).run P w = .ok () w := by
  rcases h with ⟨p, rfl⟩ | ⟨m, rfl⟩ | rfl | ⟨f, a, b, rfl⟩ <;> (unfold eqGuard; split <;> simp)

theorem eqIn_ptr (d : Nat) {t e : TypeId} (hu : P.underlying t = some (.pointer e)) (p : Option Addr) : (Op.equalIn (d + 1) t (.pointer p) (.pointer none)).run P w = .ok p.isNone w := by
  cases p <;> simp [Op.equalIn, run_underlying' hu]
theorem eqIn_map (d : Nat) {t k e : TypeId} (hu : P.underlying t = some (.map k e)) (p : Option Nat) : (Op.equalIn (d + 1) t (.map p) (.map none)).run P w = .ok p.isNone w := by
  cases p <;> simp [Op.equalIn, run_underlying' hu]
theorem eqIn_fn (d : Nat) {t : TypeId} {a b c} (hu : P.underlying t = some (.func a b c)) : (Op.equalIn (d + 1) t .nilFunc .nilFunc).run P w = .ok true w := by
  simp [Op.equalIn, run_underlying' hu]
theorem eqIn_fn' (d : Nat) {t : TypeId} {a b c} (hu : P.underlying t = some (.func a b c)) {f x y} : (Op.equalIn (d + 1) t (.func f x y) .nilFunc).run P w = .ok false w := by
  simp [Op.equalIn, run_underlying' hu]

theorem run_eqZ {t : TypeId} {u v : Value} {x : V} {kd : Nat} {y : Operand} (neg : Bool) (hk : HOK w.heap H β F) (hy : isNilZ kd y = true) (hv : ∀ c, y = .const c → v = c) (hr : RV (cx w.heap H β F) u x) (h1 : (x.nilK kd).isSome = true) (h2 : okZ H x)
    (hu : (kd = 0 → ∃ e, P.underlying t = some (.pointer e)) ∧ (kd = 1 → ∃ k e, P.underlying t = some (.map k e)) ∧ (kd = 2 → ∃ a b c, P.underlying t = some (.func a b c))) :
    ((∃ p, u = .pointer p) ∨ (∃ m, u = .map m) ∨ u = .nilFunc ∨ ∃ f a b, u = .func f a b) ∧ (binOp (if neg then .neq else .eql) t u v).run P w = .ok (.bool ((x.nilK kd == some true) ^^ neg)) w := by
  have fin : ∀ {u v : Value} {b : Bool}, (Op.equalIn 10000 t u v).run P w = .ok b w → (∀ k n, u ≠ .int k n) → (∀ k n, u ≠ .float k n) → (∀ k n m, u ≠ .complex k n m) → (∀ s, u ≠ .string s) → (binOp (if neg then .neq else .eql) t u v).run P w = .ok (.bool (b ^^ neg)) w := by
    intro u v b h n1 n2 n3 n4
    cases neg
    · have : binOp .eql t u v = (do pure (.bool (← Op.equal t u v))) := by
        cases u <;> first | rfl | exact (n1 _ _ rfl).elim | exact (n2 _ _ rfl).elim | exact (n3 _ _ _ rfl).elim | exact (n4 _ rfl).elim
      simp only [Bool.false_eq_true, if_false, this, Op.equal, Op.maxDepth, Sem.run_bind, h, Result.andThen_ok, Sem.run_pure, Bool.xor_false]
    · have : binOp .neq t u v = (do pure (.bool (!(← Op.equal t u v)))) := by
        cases u <;> first | rfl | exact (n1 _ _ rfl).elim | exact (n2 _ _ rfl).elim | exact (n3 _ _ _ rfl).elim | exact (n4 _ rfl).elim
      simp only [if_true, this, Op.equal, Op.maxDepth, Sem.run_bind, h, Result.andThen_ok, Sem.run_pure, Bool.xor_true]
  unfold isNilZ at hy
  split at hy <;> first | cases hy | skip
  · obtain ⟨e, hu⟩ := hu.1 rfl
    cases hv _ rfl
    cases hr with
    | a =>
      cases u with
      | pointer p =>
        cases p with
        | none => exact ⟨.inl ⟨_, rfl⟩, fin (b := true) (eqIn_ptr 9999 hu none) (by simp) (by simp) (by simp) (by simp)⟩
        | some p => simp [V.nilK] at h1
      | _ => simp [V.nilK] at h1
    | ptr hl h =>
      obtain ⟨b, o, e1, _⟩ := (RV.ptr hl h).cells hk h2
      rw [e1]
      exact ⟨.inl ⟨_, rfl⟩, fin (b := false) (eqIn_ptr 9999 hu _) (by simp) (by simp) (by simp) (by simp)⟩
    | ref g hb hs hg hr => exact ⟨.inl ⟨_, rfl⟩, fin (b := false) (eqIn_ptr 9999 hu _) (by simp) (by simp) (by simp) (by simp)⟩
    | _ => simp [V.nilK] at h1
  · obtain ⟨k, e, hu⟩ := hu.2.1 rfl
    cases hv _ rfl
    cases hr with
    | a =>
      cases u with
      | map p =>
        cases p with
        | none => exact ⟨.inr (.inl ⟨_, rfl⟩), fin (b := true) (eqIn_map 9999 hu none) (by simp) (by simp) (by simp) (by simp)⟩
        | some p => simp [V.nilK] at h1
      | _ => simp [V.nilK] at h1
    | mp hl h =>
      rename_i id
      rcases (RV.mp hl h).mapv hk h2 with ⟨e1, _⟩ | ⟨b, ents, clock, e1, _⟩
      · exfalso
        obtain ⟨fz, refs, es, hid, he⟩ := map_get (show (H.getD id .dead).isMap = true from h2)
        rw [h ((β id).wt 0) (by show hdOf H β id = _; simp [hdOf, hid]) rfl] at e1
        cases e1
      · rw [e1]
        exact ⟨.inr (.inl ⟨_, rfl⟩), fin (b := false) (eqIn_map 9999 hu _) (by simp) (by simp) (by simp) (by simp)⟩
    | mview hb hm hl hkk hv => exact ⟨.inr (.inl ⟨_, rfl⟩), fin (b := false) (eqIn_map 9999 hu _) (by simp) (by simp) (by simp) (by simp)⟩
    | _ => simp [V.nilK] at h1
  · obtain ⟨p1, p2, p3, hu⟩ := hu.2.2 rfl
    cases hv _ rfl
    cases hr with
    | a =>
      cases u with
      | nilFunc => exact ⟨.inr (.inr (.inl rfl)), fin (b := true) (eqIn_fn 9999 hu) (by simp) (by simp) (by simp) (by simp)⟩
      | _ => simp [V.nilK] at h1
    | fn hl hl' h h' => exact ⟨.inr (.inr (.inr ⟨_, _, _, rfl⟩)), fin (b := false) (eqIn_fn' 9999 hu) (by simp) (by simp) (by simp) (by simp)⟩
    | _ => simp [V.nilK] at h1

end
end Go.Abs
