/- Operations that make and read memory. -/
import Derived.Test.YthcoldfgpigdhaaGreatDoorZB
import Derived.Laws.Append
namespace Go.Zd
variable {P : Program} {g : Gh} {tm : List (Nat × DV)} {w : World} {ρ : Operand → Value} {O : Nat → Loc} {H : List (List DV)} {base : Nat} {PR : List Nat}

theorem heap_lt {w : World} {c : Nat} {o : Obj} (h : w.heap[c]? = some o) : c < w.heap.size := (Array.getElem?_eq_some_iff.1 h).1

def Gh.addArr (g : Gh) (c : Nat) (ga : GA) : Gh := { g with G := fun k => if k = c then some ga else g.G k }

theorem Gh.le_addArr {g : Gh} {c : Nat} {ga : GA} (h : g.G c = none) : g.Le (g.addArr c ga) := by
  refine ⟨fun k ka hk => ⟨[], ?_⟩, fun _ _ => rfl, Nat.le_refl _, rfl⟩
  have : k ≠ c := by rintro rfl; rw [h] at hk; cases hk
  simp [Gh.addArr, this, hk]

theorem alloc_old {w : World} {o : Obj} {i : Nat} (h : i < w.heap.size) : (w.alloc o).heap[i]? = w.heap[i]? := by
  unfold World.alloc
  simp only [Array.getElem?_push, Nat.ne_of_lt h, if_false]
theorem alloc_new {w : World} {o : Obj} : (w.alloc o).heap[w.heap.size]? = some o := by
  unfold World.alloc
  simp only [Array.getElem?_push, if_true]
theorem alloc_size {w : World} {o : Obj} : (w.alloc o).heap.size = w.heap.size + 1 := by
  unfold World.alloc
  simp only [Array.size_push]

theorem OwnAt.mono {g g' : Gh} {O O' : Nat → Loc} {x : Value} {l l' : Loc} (h : OwnAt g O base x l) (hG : ∀ c ga, g.G c = some ga → O c = l → g'.G c = some ga) (hO : ∀ c, O c = l → O' c = l') : OwnAt g' O' base x l' := by
  obtain ⟨c, i, len, cap, ga, e, h1, h2, h3, h4⟩ := h
  exact ⟨c, i, len, cap, ga, e, hG c ga h1 h4, h2, h3, hO c h4⟩

/-- a new array -/
theorem Inv.newArr [LowPred] (hI : Inv w g O H base) {cells : Array Value} {E : TypeId} {ga : GA} (h1 : cells.size = ga.sz) (h2 : 0 < ga.wd) (h3 : ga.st + ga.es.length * ga.wd ≤ ga.sz)
    (h4 : ∀ v ∈ ga.es, v.elemOk ga.wd = true) (h5 : VRL g ((cells.toList.drop ga.st).take (ga.es.length * ga.wd)) (flat ga.es)) :
    Inv (w.alloc (.cells cells E)) (g.addArr w.heap.size ga) O H base ∧ Hist w g O base PR (w.alloc (.cells cells E)) (g.addArr w.heap.size ga) O ∧ g.G w.heap.size = none := by
  have hnone : g.G w.heap.size = none := by
    cases hg : g.G w.heap.size with
    | none => rfl
    | some ga' =>
      obtain ⟨cs, E, fr, hc, _⟩ := hI.arr _ _ hg
      exact absurd (heap_lt hc) (Nat.lt_irrefl _)
  have hle := Gh.le_addArr (ga := ga) hnone
  refine ⟨⟨hI.num, ?_, ?_, ?_, ?_, hI.inj, fun i hi => (alloc_old (Nat.lt_of_lt_of_le hi hI.le)).trans (hI.low i hi), hI.lowOk⟩, ⟨hle, ?_, ?_, ?_, ?_, rfl, rfl, rfl, ?_⟩, hnone⟩
  · rw [alloc_size]; have := hI.le; omega
  · intro c hc; rw [alloc_size] at hc; exact hI.dom c (by omega)
  · intro c gc hc
    by_cases hcn : c = w.heap.size
    · subst hcn
      simp [Gh.addArr] at hc
      subst hc
      exact ⟨cells, E, (0, 0), alloc_new, h1, h2, h3, h4, h5.mono hle, fun _ => rfl⟩
    · simp [Gh.addArr, hcn] at hc
      obtain ⟨cs, E', fr, a1, a2, a3, a4, a5, a6, a7⟩ := hI.arr _ _ hc
      exact ⟨cs, E', fr, by rw [alloc_old (heap_lt a1)]; exact a1, a2, a3, a4, a5, a6.mono hle, a7⟩
  · intro b ds hb
    obtain ⟨a1, a2, a3, cs, E', a4, a5, a6⟩ := hI.var b ds hb
    have hne : g.V b ≠ w.heap.size := Nat.ne_of_lt (heap_lt a4)
    refine ⟨a1, by simp [Gh.addArr, hne, a2], a3, cs, E', by show (w.alloc _).heap[g.V b]? = _; rw [alloc_old (heap_lt a4)]; exact a4, a5.mono hle, ?_⟩
    intro j d x hd hx ho
    refine (a6 j d x hd hx ho).mono ?_ (fun _ h => h)
    intro c gc hc _
    have : c ≠ w.heap.size := by rintro rfl; rw [hnone] at hc; cases hc
    simp [Gh.addArr, this, hc]
  · intro c hc
    refine ⟨hc, ?_⟩
    have : c ≠ w.heap.size := by rintro rfl; rw [hI.dom _ (Nat.le_refl _)] at hc; cases hc
    simp [Gh.addArr, this]
  · intro b hb hn
    rw [hI.num] at hn
    obtain ⟨_, _, _, cs, E', a4, _⟩ := hI.var b H[b] (List.getElem?_eq_getElem hn)
    exact alloc_old (heap_lt a4)
  · intro i hi; exact alloc_old (Nat.lt_of_lt_of_le hi hI.le)
  · rw [alloc_size]; omega
  · intro i hi cs E' fr hc; exact ⟨cs, by rw [alloc_old hi]; exact hc, rfl⟩

/-- the value of a new array's slice -/
theorem VR.newSlice {c : Nat} {ga : GA} (h0 : ga.st = 0) {fl : Fl} {cap : Nat} (hc : ga.es.length ≤ cap) (hz : cap * ga.wd ≤ ga.sz) (hf : fl = .ti → cap = ga.es.length) :
    VR (g.addArr c ga) (.slice (some ⟨c, 0, none⟩) ga.es.length cap) (.slice fl ga.wd ga.es) := by
  have := VR.slice (g := g.addArr c ga) c 0 ga.es.length cap ga fl (by simp [Gh.addArr]) (by omega) hc (by rw [h0]; simpa using hz) hf
  simpa [h0] using this

theorem flat_set {es : List DV} {wd : Nat} (h : ∀ v ∈ es, v.cells.length = wd) : ∀ {i : Nat} {v : DV}, i < es.length → v.cells.length = wd → flat (es.set i v) = putAt (flat es) (i * wd) v.cells := by
  induction es with
  | nil => intro i v hi; simp at hi
  | cons u es ih =>
    intro i v hi hv
    have hu := h u (by simp)
    cases i with
    | zero =>
      simp only [List.set_cons_zero, flat_cons, putAt, Nat.zero_mul, List.take_zero, List.nil_append, Nat.zero_add]
      congr 1
      rw [hv, ← hu, List.drop_left]
    | succ i =>
      simp only [List.set_cons_succ, flat_cons]
      rw [ih (fun v hv => h v (by simp [hv])) (by simpa using hi) hv]
      unfold putAt
      have e : (i + 1) * wd = u.cells.length + i * wd := by rw [hu, Nat.add_mul]; omega
      have e2 : ∀ k, List.drop (u.cells.length + k) (u.cells ++ flat es) = List.drop k (flat es) := fun k => by rw [← List.drop_drop, List.drop_left]
      rw [e, List.take_length_add_append, Nat.add_assoc, e2]
      simp

theorem setElem_build [LowPred] {wd : Nat} (_hw : 0 < wd) : ∀ (ps : List (Nat × DX)) (es es' : List DV), (∀ v ∈ es, v.elemOk wd = true) → setElem tm wd es ps = some es' →
    buildDV tm (flat es) (ps.map fun p => (p.1 * wd, wd, p.2)) = some (flat es') ∧ es'.length = es.length ∧ (∀ v ∈ es', v.elemOk wd = true) := by
  intro ps
  induction ps with
  | nil => intro es es' h hs; cases hs; exact ⟨rfl, rfl, h⟩
  | cons p ps ih =>
    intro es es' h hs
    obtain ⟨i, x⟩ := p
    simp only [setElem] at hs
    split at hs
    · rename_i hc
      have hl := elemOk_len hc.1
      have hall : ∀ v ∈ es.set i (rdc tm x), v.elemOk wd = true := by
        intro v hv
        rcases List.mem_or_eq_of_mem_set hv with h' | h'
        · exact h v h'
        · rw [h']; exact hc.1
      obtain ⟨h1, h2, h3⟩ := ih _ _ hall hs
      refine ⟨?_, by rw [h2]; simp, h3⟩
      simp only [List.map_cons, buildDV]
      have hU : (rdc tm x).isU = false := by
        cases hr : rdc tm x <;> first | rfl | (rw [hr] at hc; simp [DV.elemOk, DV.cells, DV.plain1] at hc)
      have hfl := flat_length (fun v hv => elemOk_len (h v hv))
      have hle : i * wd + wd ≤ (flat es).length := by
        rw [hfl]
        have : (i + 1) * wd ≤ es.length * wd := Nat.mul_le_mul_right _ hc.2
        rw [Nat.add_mul] at this; omega
      rw [if_pos ⟨hl, hle, hU⟩, ← flat_set (fun v hv => elemOk_len (h v hv)) hc.2 hl]
      exact h1
    · cases hs

theorem elemParts_R {n : Nat} : ∀ {ps : List (Nat × Operand)} {ds : List (Nat × DX)}, elemParts ps = some ds → PartsR (fun i => some (i * n, n)) ps (ds.map fun p => (p.1 * n, n, p.2))
  | [], ds, h => by cases h; exact .nil
  | (i, x) :: r, ds, h => by
    unfold elemParts at h
    split at h
    · rename_i d l hd hl
      cases h
      exact .cons rfl hd (elemParts_R hl)
    · cases h

theorem zeros_toList (z : Array Value) (k : Nat) : ((Array.range (k * z.size)).map (z[· % z.size]!)).toList = (List.replicate k z.toList).flatten := by
  rcases Nat.eq_zero_or_pos z.size with h0 | hz
  · have : z.toList = [] := by simpa using h0
    rw [this, h0]; simp
  induction k with
  | zero => simp
  | succ k ih =>
    rw [List.replicate_succ', List.flatten_append, ← ih]
    simp only [List.flatten_cons, List.flatten_nil, List.append_nil]
    apply List.ext_getElem?
    intro j
    simp only [Array.toList_map, Array.toList_range, List.getElem?_map, Nat.add_mul, Nat.one_mul]
    rcases Nat.lt_or_ge j (k * z.size) with hj | hj
    · rw [List.getElem?_append_left (by simpa using hj)]
      simp only [List.getElem?_map]
      rw [List.getElem?_range (by omega), List.getElem?_range hj]
    · rw [List.getElem?_append_right (by simpa using hj)]
      simp only [List.length_map, List.length_range]
      rcases Nat.lt_or_ge j (k * z.size + z.size) with hj2 | hj2
      · rw [List.getElem?_range hj2]
        have hlt : j - k * z.size < z.size := by omega
        have hm : j % z.size = j - k * z.size := by
          have : j = (j - k * z.size) + z.size * k := by rw [Nat.mul_comm z.size k]; omega
          have h3 : j % z.size = ((j - k * z.size) + z.size * k) % z.size := by rw [← this]
          rw [h3, Nat.add_mul_mod_self_left, Nat.mod_eq_of_lt hlt]
        simp [hm, hlt]
      · rw [List.getElem?_eq_none (by simpa using hj2)]
        rw [List.getElem?_eq_none (by simp; omega)]
        rfl

theorem flat_replicate [LowPred] (k : Nat) (z : DV) : flat (List.replicate k z) = (List.replicate k z.cells).flatten := by
  induction k with
  | zero => rfl
  | succ k ih => rw [List.replicate_succ, flat_cons, ih, List.replicate_succ, List.flatten_cons]

theorem VRL.replicate {xs : List Value} {ds : List DV} (h : VRL g xs ds) (k : Nat) : VRL g (List.replicate k xs).flatten (List.replicate k ds).flatten := by
  induction k with
  | zero => exact .nil
  | succ k ih => rw [List.replicate_succ, List.replicate_succ, List.flatten_cons, List.flatten_cons]; exact h.append ih

theorem sim_bslice [LowPred] (hI : Inv w g O H base) {o : Oper} {t e : TypeId} {len n : Nat} {parts : Array (Nat × Operand)} {ps : List (Nat × DX)} {ie : TypeInfo} {zv : Value} {z v : DV}
    (ho : o.op = .buildSlice t len parts) (hs : OpR g ρ tm) (hu : P.underlying t = some (.slice e)) (hi : P.info? e = some ie) (hn : ie.size = n) (hz : ie.zero = some zv) (hc : constDV zv = some z)
    (hf : elemParts parts.toList = some ps) (h0 : 0 < n) (hlpos : 0 < len) (h1 : len * n ≤ 16777216) (h2 : z.elemOk n = true)
    (hp : pureOp tm (.bslice n len z ps) = some v) :
    ∃ y w' g', (execOp ρ o).run P w = .ok (.value y) w' ∧ VR g' y v ∧ Inv w' g' O H base ∧ Hist w g O base PR w' g' O ∧ (∀ k, k < w.heap.size → g'.G k = g.G k) := by
  subst hn
  simp only [pureOp] at hp
  split at hp
  · rename_i es hse
    cases hp
    have hzU : z ≠ .undef := by rintro rfl; simp [DV.elemOk, DV.cells, DV.plain1] at h2
    have hzc := (constDV_VR (g := g) hc).cells hzU
    have hzs : zv.cells.size = ie.size := by rw [← elemOk_len h2, ← hzc.length]; simp
    obtain ⟨hb, hlen, hall⟩ := setElem_build h0 ps _ es (by intro v hv; rw [List.eq_of_mem_replicate hv]; exact h2) hse
    have hz0 : VRL g ((Array.range (len * ie.size)).map (zv.cells[· % zv.cells.size]!)).toList (flat (List.replicate len z)) := by
      have := zeros_toList zv.cells len
      rw [hzs] at this
      rw [hzs, this, flat_replicate]
      exact hzc.replicate len
    obtain ⟨cells, f1, f2⟩ := fill_sim hs (elemParts_R hf) hz0 hb
    have hel : es.length = len := by rw [hlen]; simp
    have hcs : cells.size = len * ie.size := by
      have := f2.length
      rw [flat_length (fun v hv => elemOk_len (hall v hv)), hel] at this
      simpa using this
    have hrun : (execOp ρ o).run P w = .ok (.value (.slice (some ⟨w.heap.size, 0, none⟩) len len)) (w.alloc (.cells cells e)) := by
      have hne : ¬ len * ie.size = 0 := by
        have := Nat.mul_pos hlpos h0; omega
      have f1' : Instr.fill (fun i => some (i * ie.size, ie.size)) ((Array.range (len * ie.size)).map (zv.cells[· % zv.cells.size]!)) (parts.map fun (i, x) => (i, ρ x)).toList = some cells := by simpa using f1
      have := run_buildSlice (P := P) w t e len (parts.map fun (i, x) => (i, ρ x)) cells ie zv hu hi hz (by omega) hne f1'
      simp only [execOp, ho, Sem.run_bind, this, Result.andThen_ok]
      rfl
    obtain ⟨i1, i2, i3⟩ := hI.newArr (PR := PR) (E := e) (cells := cells) (ga := ⟨0, ie.size, len * ie.size, es⟩) hcs h0 (by simp [hel]) hall (by
      simp only [List.drop_zero]
      rw [List.take_of_length_le (by simp [hcs, hel])]
      exact f2)
    refine ⟨_, _, _, hrun, ?_, i1, i2, fun k hk => by simp [Gh.addArr, Nat.ne_of_lt hk]⟩
    have := VR.newSlice (g := g) (c := w.heap.size) (ga := ⟨0, ie.size, len * ie.size, es⟩) rfl (fl := .ti) (cap := len) (by simp [hel]) (by simp) (by simp [hel])
    simpa [hel] using this
  · cases hp

end Go.Zd
namespace Go.Zd
variable {P : Program} {g : Gh} {tm : List (Nat × DV)} {w : World} {ρ : Operand → Value} {O : Nat → Loc} {H : List (List DV)} {base : Nat} {PR : List Nat}

theorem cell_at {c : Nat} {cs : Array Value} {E : TypeId} {fr : Nat × Nat} (h : w.heap[c]? = some (.cells cs E fr)) (o : Nat) : w.cell? ⟨c, o, none⟩ = cs[o]? := by
  simp [World.cell?, h]

theorem run_load_cell {a : Addr} {v : Value} (h : w.cell? a = some v) : (load a).run P w = .ok v w := by
  simp [load, Sem.run, h]

theorem load_run [LowPred] {t : TypeId} {ag : Bool} {n : Nat} {c o : Nat} {cs : Array Value} {E : TypeId} {fr : Nat × Nat} (h : w.heap[c]? = some (.cells cs E fr))
    (ha : aggO P t = some ag) (hn : szOf P t = some n) (hag : (ag || n == 1) = true) (hle : o + n ≤ cs.size) :
    (Instr.loadAt t (.pointer (some ⟨c, o, none⟩))).run P w = .ok (if ag then .agg ((cs.toList.drop o).take n).toArray else ((cs.toList.drop o).take n).headD undef) w := by
  have hc : ∀ j x, ((cs.toList.drop o).take n)[j]? = some x → w.cell? ((⟨c, o, none⟩ : Addr).add j) = some x := by
    intro j x hj
    rw [addr_add _ _ rfl, cell_at h]
    have hlt := (List.getElem?_eq_some_iff.1 hj).1
    rw [List.getElem?_take_of_lt (by simp at hlt; omega), List.getElem?_drop] at hj
    simpa using hj
  have hl : ((cs.toList.drop o).take n).length = n := by simp; omega
  cases ag with
  | true =>
    have := run_loadCells_list (P := P) w ⟨c, o, none⟩ _ hc
    rw [hl] at this
    simp [Instr.loadAt, Instr.sureAddr, loadVar, run_isAgg ha, run_sizeOf hn, this]
  | false =>
    have hn1 : n = 1 := by simpa using hag
    subst hn1
    have hlt : o < cs.size := by omega
    have h0 := hc 0 cs[o] (by rw [List.getElem?_take_of_lt (by omega)]; simp [hlt])
    rw [addr_add _ _ rfl] at h0
    have h0' : w.cell? ⟨c, o, none⟩ = some cs[o] := h0
    have e : ((cs.toList.drop o).take 1).headD undef = cs[o] := by rw [List.drop_eq_getElem_cons (by simpa using hlt)]; simp
    rw [e]
    simp [Instr.loadAt, Instr.sureAddr, loadVar, run_isAgg ha, h0']

theorem loadDV_VR [LowPred] (hI : Inv w g O H base) {ag : Bool} {n : Nat} {d v : DV} {x : Value} {t : TypeId} (hx : VR g x d) (hl : loadDV H ag n d = some v)
    (ha : aggO P t = some ag) (hn : szOf P t = some n) (hag : (ag || n == 1) = true) :
    ∃ y, (Instr.loadAt t x).run P w = .ok y w ∧ VR g y v := by
  unfold loadDV at hl
  split at hl
  · rename_i b o
    split at hl
    · rename_i ds hb
      split at hl
      · rename_i hle
        cases hx
        obtain ⟨_, _, _, cs, E, h1, h2, _⟩ := hI.var b ds hb
        have hsz : cs.size = ds.length := by simpa using h2.length
        exact ⟨_, load_run h1 ha hn hag (by omega), mkCells_VR (((h2.drop o).take n).map_clean) hl⟩
      · cases hl
    · cases hl
  · rename_i ds o
    split at hl
    · rename_i hle
      cases hx
      rename_i c i ga dv h1 h2 h3
      obtain ⟨cs, E, fr, a1, a2, a3, a4, a5, a6, _⟩ := hI.arr _ _ h1
      have hlen : ∀ v ∈ ga.es, v.cells.length = ga.wd := fun v hv => elemOk_len (a5 v hv)
      have hwd : dv.cells.length = ga.wd := hlen dv (List.mem_of_getElem? h2)
      have hi : i < ga.es.length := (List.getElem?_eq_some_iff.1 h2).1
      have hmul : (i + 1) * ga.wd ≤ ga.es.length * ga.wd := Nat.mul_le_mul_right _ hi
      rw [Nat.add_mul, Nat.one_mul] at hmul
      -- the element's cells
      have hcell : VRL g ((cs.toList.drop (ga.st + i * ga.wd)).take ga.wd) dv.cells := by
        have := (a6.drop (i * ga.wd)).take ga.wd
        rw [flat_get hlen h2] at this
        have e : ((List.drop (i * ga.wd) (List.take (ga.es.length * ga.wd) (List.drop ga.st cs.toList)))).take ga.wd = (cs.toList.drop (ga.st + i * ga.wd)).take ga.wd := by
          rw [List.drop_take, List.drop_drop, List.take_take, Nat.min_eq_left (by omega)]
        rw [e] at this
        exact this
      have hv := mkCells_VR (((hcell.drop o).take n).map_clean) hl
      have e2 : (((cs.toList.drop (ga.st + i * ga.wd)).take ga.wd).drop o).take n = (cs.toList.drop (ga.st + i * ga.wd + o)).take n := by
        rw [List.drop_take, List.drop_drop, List.take_take, Nat.min_eq_left (by omega)]
      rw [e2] at hv
      exact ⟨_, load_run a1 ha hn hag (by omega), hv⟩
    · cases hl
  · cases hl

theorem sim_load [LowPred] (hI : Inv w g O H base) {o : Oper} {t : TypeId} {x : Operand} {dx : DX} {v : DV} {n : Nat} {ag : Bool} (ho : o.op = .load t x) (hs : OpR g ρ tm) (hx : opd x = some dx)
    (hn : szOf P t = some n) (ha : aggO P t = some ag) (hag : (ag || n == 1) = true) (hp : loadDV H ag n (rdc tm dx) = some v) :
    ∃ y, (execOp ρ o).run P w = .ok (.value y) w ∧ VR g y v := by
  obtain ⟨y, h1, h2⟩ := loadDV_VR (P := P) hI (hs _ _ hx) hp ha hn hag
  exact ⟨y, by simp [execOp, ho, h1], h2⟩

/-! ## new variables -/

def Gh.addVar (g : Gh) (c : Nat) : Gh := { g with V := fun b => if b = g.n then c else g.V b, n := g.n + 1 }

theorem Gh.le_addVar (g : Gh) (c : Nat) : g.Le (g.addVar c) := by
  refine ⟨fun k ka hk => ⟨[], by simp [Gh.addVar, hk]⟩, fun b hb => ?_, by simp [Gh.addVar], rfl⟩
  simp [Gh.addVar, Nat.ne_of_lt hb]

theorem Inv.newVar [LowPred] (hI : Inv w g O H base) {cells : Array Value} {E : TypeId} {ds : List DV} (h1 : VRL g cells.toList ds) (h2 : ds.all (DV.cellOk H.length) = true) (h3 : ∀ d ∈ ds, isOwn d = false) :
    Inv (w.alloc (.cells cells E)) (g.addVar w.heap.size) O (H ++ [ds]) base ∧ Hist w g O base PR (w.alloc (.cells cells E)) (g.addVar w.heap.size) O := by
  have hle := g.le_addVar w.heap.size
  have hVold : ∀ b, b < H.length → (g.addVar w.heap.size).V b = g.V b := fun b hb => hle.var b (by rw [hI.num]; exact hb)
  have hVnew : (g.addVar w.heap.size).V H.length = w.heap.size := by simp [Gh.addVar, hI.num]
  have hVlt : ∀ b, b < H.length → g.V b < w.heap.size := by
    intro b hb
    obtain ⟨_, _, _, cs, E', a4, _⟩ := hI.var b H[b] (List.getElem?_eq_getElem hb)
    exact heap_lt a4
  refine ⟨⟨?_, ?_, ?_, ?_, ?_, ?_, fun i hi => (alloc_old (Nat.lt_of_lt_of_le hi hI.le)).trans (hI.low i hi), hI.lowOk⟩, ⟨hle, fun c hc => ⟨hc, rfl⟩, ?_, ?_, ?_, rfl, rfl, rfl, ?_⟩⟩
  · simp [Gh.addVar, hI.num]
  · rw [alloc_size]; have := hI.le; omega
  · intro c hc; rw [alloc_size] at hc; exact hI.dom c (by omega)
  · intro c gc hc
    obtain ⟨cs, E', fr, a1, a2, a3, a4, a5, a6, a7⟩ := hI.arr c gc hc
    exact ⟨cs, E', fr, by rw [alloc_old (heap_lt a1)]; exact a1, a2, a3, a4, a5, a6.mono hle, a7⟩
  · intro b es hb
    rcases Nat.lt_or_ge b H.length with hlt | hge
    · rw [List.getElem?_append_left hlt] at hb
      obtain ⟨a1, a2, a3, cs, E', a4, a5, a6⟩ := hI.var b es hb
      rw [hVold b hlt]
      refine ⟨a1, a2, a3, cs, E', by rw [alloc_old (heap_lt a4)]; exact a4, a5.mono hle, ?_⟩
      intro j d x hd hx ho
      exact (a6 j d x hd hx ho).mono (fun _ _ h _ => h) (fun _ h => h)
    · have hbe : b = H.length := by
        have := (List.getElem?_eq_some_iff.1 hb).1
        simp at this; omega
      subst hbe
      simp at hb
      subst hb
      rw [hVnew]
      refine ⟨hI.le, ?_, h2, cells, E, alloc_new, h1.mono hle, ?_⟩
      · show g.G w.heap.size = none
        cases hg : g.G w.heap.size with
        | none => rfl
        | some ga' =>
          obtain ⟨cs, E, fr, hc, _⟩ := hI.arr _ _ hg
          exact absurd (heap_lt hc) (Nat.lt_irrefl _)
      · intro j d x hd hx ho
        rw [h3 d (List.mem_of_getElem? hd)] at ho
        cases ho
  · intro b b' hb hb' he
    simp at hb hb'
    rcases Nat.lt_or_ge b H.length with h | h <;> rcases Nat.lt_or_ge b' H.length with h' | h'
    · rw [hVold b h, hVold b' h'] at he; exact hI.inj b b' h h' he
    · have e : b' = H.length := by omega
      subst e
      rw [hVold b h, hVnew] at he
      exact absurd he (Nat.ne_of_lt (hVlt b h))
    · have e : b = H.length := by omega
      subst e
      rw [hVold b' h', hVnew] at he
      exact absurd he.symm (Nat.ne_of_lt (hVlt b' h'))
    · omega
  · intro b hb hn
    rw [hI.num] at hn
    exact alloc_old (hVlt b hn)
  · intro i hi; exact alloc_old (Nat.lt_of_lt_of_le hi hI.le)
  · rw [alloc_size]; omega
  · intro i hi cs E' fr hc; exact ⟨cs, by rw [alloc_old hi]; exact hc, rfl⟩

theorem VR.newPtr [LowPred] (hI : Inv w g O H base) (c : Nat) : VR (g.addVar c) (.pointer (some ⟨c, 0, none⟩)) (.ptr H.length 0) := by
  have := VR.ptr (g := g.addVar c) H.length 0 (by simp [Gh.addVar, hI.num])
  simpa [Gh.addVar, hI.num] using this

theorem const1_ok {v : Value} {d : DV} (h : const1 v = some d) (b : Nat) : d.cellOk b = true ∧ isOwn d = false := by
  unfold const1 at h
  split at h <;> first | (cases h; exact ⟨rfl, rfl⟩) | cases h

theorem constL_ok [LowPred] : ∀ {l : List Value} {ds : List DV}, constL l = some ds → ∀ b, ds.all (DV.cellOk b) = true ∧ ∀ d ∈ ds, isOwn d = false
  | [], ds, h, b => by cases h; exact ⟨rfl, by simp⟩
  | v :: r, ds, h, b => by
    unfold constL at h
    split at h
    · cases h
      rename_i d l h1 h2
      obtain ⟨a1, a2⟩ := constL_ok h2 b
      obtain ⟨b1, b2⟩ := const1_ok h1 b
      refine ⟨by simp only [List.all_cons, b1, a1, Bool.and_self], ?_⟩
      intro x hx
      rcases List.mem_cons.1 hx with rfl | hx
      · exact b2
      · exact a2 x hx
    · cases h

theorem sim_alloc [LowPred] (hI : Inv w g O H base) {o : Oper} {t : TypeId} {it : TypeInfo} {zv : Value} {z : List DV} (ho : o.op = .alloc t) (hi : P.info? t = some it) (hz : it.zero = some zv) (hc : constL zv.cells.toList = some z) :
    (execOp ρ o).run P w = .ok (.value (.pointer (some ⟨w.heap.size, 0, none⟩))) (w.alloc (.cells zv.cells t)) ∧
    Inv (w.alloc (.cells zv.cells t)) (g.addVar w.heap.size) O (H ++ [z]) base ∧ Hist w g O base PR (w.alloc (.cells zv.cells t)) (g.addVar w.heap.size) O := by
  refine ⟨?_, hI.newVar (constL_VR hc) (constL_ok hc _).1 (constL_ok hc 0).2⟩
  simp [execOp, ho, Instr.alloc, zeroValue, typeInfo, go_sem, hi, hz, newVar, newRow]

theorem isOwn_clean1 (d : DV) : isOwn d.clean1 = false := by
  cases d <;> try rfl
  rename_i fl _ _
  cases fl <;> rfl

theorem sim_box [LowPred] (hI : Inv w g O H base) {o : Oper} {t : TypeId} {x : Operand} {d : DV} (ho : o.op = .box t x) (hx : VR g (ρ x) d)
    (hall : (d.cells.map DV.clean1).all (DV.cellOk H.length) = true) :
    (execOp ρ o).run P w = .ok (.value (.pointer (some ⟨w.heap.size, 0, none⟩))) (w.alloc (.cells (ρ x).cells t)) ∧
    Inv (w.alloc (.cells (ρ x).cells t)) (g.addVar w.heap.size) O (H ++ [d.cells.map DV.clean1]) base ∧ Hist w g O base PR (w.alloc (.cells (ρ x).cells t)) (g.addVar w.heap.size) O := by
  have hne : d ≠ .undef := by rintro rfl; simp [DV.cells, DV.clean1, DV.cellOk] at hall
  refine ⟨?_, hI.newVar (hx.cells hne).map_clean hall ?_⟩
  · simp [execOp, ho, Instr.box, newVar, newRow, go_sem]
  · intro e he
    obtain ⟨y, _, rfl⟩ := List.mem_map.1 he
    exact isOwn_clean1 y

end Go.Zd
namespace Go.Zd
variable {P : Program} {g : Gh} {tm : List (Nat × DV)} {w : World} {ρ : Operand → Value} {O : Nat → Loc} {H : List (List DV)} {base : Nat} {PR : List Nat}

theorem cellOk_one {b : Nat} {d : DV} {x : Value} (h : d.cellOk b = true) (hx : VR g x d) : x.oneCell' = true := by
  cases hx <;> first | rfl | (simp [DV.cellOk] at h)

theorem VRL.oneCell [LowPred] {b : Nat} : ∀ {xs : List Value} {ds : List DV}, VRL g xs ds → ds.all (DV.cellOk b) = true → ∀ x ∈ xs, x.oneCell' = true
  | _, _, .nil, _ => by simp
  | _, _, .cons h hs, ha => by
    simp only [List.all_cons, Bool.and_eq_true] at ha
    intro x hx
    rcases List.mem_cons.1 hx with rfl | hx
    · exact cellOk_one ha.1 h
    · exact hs.oneCell ha.2 x hx

theorem storeDV_some {b o n : Nat} {vs : List DV} {H' : List (List DV)} (h : storeDV H b o n vs = some H') :
    ∃ cs, H[b]? = some cs ∧ vs.length = n ∧ o + n ≤ cs.length ∧ vs.all (DV.cellOk b) = true ∧ H' = H.set b (putAt cs o vs) := by
  unfold storeDV at h
  split at h
  · rename_i cs hb
    split at h
    · rename_i hc; cases h; exact ⟨cs, hb, hc.1, hc.2.1, hc.2.2, rfl⟩
    · cases h
  · cases h

theorem putAt_get {zs vs : List DV} {o j : Nat} {d : DV} (hle : o + vs.length ≤ zs.length) (h : (putAt zs o vs)[j]? = some d) :
    (j < o ∧ zs[j]? = some d) ∨ (o ≤ j ∧ j < o + vs.length ∧ vs[j - o]? = some d) ∨ (o + vs.length ≤ j ∧ zs[j]? = some d) := by
  unfold putAt at h
  have hl : (zs.take o).length = o := by simp; omega
  rcases Nat.lt_or_ge j o with hj | hj
  · rw [List.append_assoc, List.getElem?_append_left (by omega), List.getElem?_take_of_lt hj] at h
    exact .inl ⟨hj, h⟩
  · rcases Nat.lt_or_ge j (o + vs.length) with hj2 | hj2
    · rw [List.append_assoc, List.getElem?_append_right (by omega), List.getElem?_append_left (by omega), hl] at h
      exact .inr (.inl ⟨hj, hj2, h⟩)
    · rw [List.getElem?_append_right (by simp; omega), List.getElem?_drop] at h
      have : o + vs.length + (j - (zs.take o ++ vs).length) = j := by simp; omega
      rw [this] at h
      exact .inr (.inr ⟨hj2, h⟩)

theorem putAt_getV {zs vs : List Value} {o j : Nat} (hle : o + vs.length ≤ zs.length) :
    (j < o → (zs.take o ++ vs ++ zs.drop (o + vs.length))[j]? = zs[j]?) ∧ (o ≤ j → j < o + vs.length → (zs.take o ++ vs ++ zs.drop (o + vs.length))[j]? = vs[j - o]?) ∧
    (o + vs.length ≤ j → (zs.take o ++ vs ++ zs.drop (o + vs.length))[j]? = zs[j]?) := by
  have hl : (zs.take o).length = o := by simp; omega
  refine ⟨fun hj => ?_, fun hj hj2 => ?_, fun hj2 => ?_⟩
  · rw [List.append_assoc, List.getElem?_append_left (by omega), List.getElem?_take_of_lt hj]
  · rw [List.append_assoc, List.getElem?_append_right (by omega), List.getElem?_append_left (by omega), hl]
  · rw [List.getElem?_append_right (by simp; omega), List.getElem?_drop]
    congr 1
    simp; omega

/-- a store into a variable: the right to append, if it goes along, comes from a place l0 -/
theorem Inv.storeVar [LowPred] (hI : Inv w g O H base) {b o : Nat} {vs : List DV} {xs : List Value} {cs : List DV} {O' : Nat → Loc} (hb : H[b]? = some cs) (hle : o + vs.length ≤ cs.length) (hx : VRL g xs vs)
    (hok : vs.all (DV.cellOk b) = true) (hpr : b ∉ PR)
    (hO : ∀ c, O' c = O c ∨ (O c ≠ .rest ∧ O c ≠ .none ∧ (∀ b' j', O c ≠ .cell b' j')))
    (hown : ∀ j d x, vs[j]? = some d → xs[j]? = some x → isOwn d = true → OwnAt g O' base x (.cell b (o + j))) :
    ∃ old E, w.heap[g.V b]? = some (.cells old E (0, 0)) ∧ o + xs.length ≤ old.size ∧
    Inv (w.setRow (g.V b) (old.toList.take o ++ xs ++ old.toList.drop (o + xs.length)).toArray) g O' (H.set b (putAt cs o vs)) base ∧
    Hist w g O base PR (w.setRow (g.V b) (old.toList.take o ++ xs ++ old.toList.drop (o + xs.length)).toArray) g O' := by
  obtain ⟨a1, a2, a3, old, E, a4, a5, a6⟩ := hI.var b cs hb
  have hlen := hx.length
  have hol : old.size = cs.length := by simpa using a5.length
  have hbl : b < H.length := (List.getElem?_eq_some_iff.1 hb).1
  refine ⟨old, E, a4, by omega, ?_, ?_⟩
  · have hcell : ∀ c b' j', O c = .cell b' j' → O' c = .cell b' j' := by
      intro c b' j' hc
      rcases hO c with h | ⟨_, _, h⟩
      · rw [h]; exact hc
      · exact absurd hc (h b' j')
    refine ⟨by simp [hI.num], by simpa using hI.le, ?_, ?_, ?_, ?_, fun i hi => (setRow_other _ _ _ _ (by omega)).trans (hI.low i hi), hI.lowOk⟩
    · intro c hc
      simp at hc
      have := hI.dom c hc
      rcases hO c with h | ⟨_, h, _⟩
      · rw [h]; exact this
      · exact absurd this h
    · intro c gc hc
      obtain ⟨ds, E', fr, b1, b2, b3, b4, b5, b6, b7⟩ := hI.arr c gc hc
      have hne : c ≠ g.V b := by rintro rfl; rw [a2] at hc; cases hc
      exact ⟨ds, E', fr, by rw [setRow_other _ _ _ _ hne]; exact b1, b2, b3, b4, b5, b6, b7⟩
    · intro b' ds hb'
      by_cases hbb : b' = b
      · subst hbb
        rw [List.getElem?_set_self hbl] at hb'
        cases hb'
        refine ⟨a1, a2, ?_, _, E, setRow_heap _ _ _ _ _ _ a4, ?_, ?_⟩
        · unfold putAt
          simp only [List.all_append, Bool.and_eq_true]
          refine ⟨⟨?_, hok⟩, ?_⟩
          · exact List.all_eq_true.2 fun d hd => List.all_eq_true.1 a3 d (List.mem_of_mem_take hd)
          · exact List.all_eq_true.2 fun d hd => List.all_eq_true.1 a3 d (List.mem_of_mem_drop hd)
        · simpa using putAt_VRL a5 hx o
        · intro j d x hd hxj how
          have hp := putAt_getV (zs := old.toList) (vs := xs) (o := o) (j := j) (by simp; omega)
          simp only at hxj
          rcases putAt_get hle hd with ⟨h1, h2⟩ | ⟨h1, h2, h3⟩ | ⟨h1, h2⟩
          · rw [hp.1 h1] at hxj
            exact (a6 j d x h2 hxj how).mono (fun _ _ h _ => h) (fun c h => hcell c _ _ h)
          · rw [hp.2.1 h1 (by omega)] at hxj
            have := hown (j - o) d x h3 hxj how
            have e : o + (j - o) = j := by omega
            rw [e] at this
            exact this
          · rw [hp.2.2 (by omega)] at hxj
            exact (a6 j d x h2 hxj how).mono (fun _ _ h _ => h) (fun c h => hcell c _ _ h)
      · rw [List.getElem?_set_ne (Ne.symm hbb)] at hb'
        obtain ⟨b1, b2, b3, ds', E', b4, b5, b6⟩ := hI.var b' ds hb'
        have hne : g.V b' ≠ g.V b := fun h => hbb (hI.inj b' b (List.getElem?_eq_some_iff.1 hb').1 hbl h)
        refine ⟨b1, b2, b3, ds', E', by rw [setRow_other _ _ _ _ hne]; exact b4, b5, ?_⟩
        intro j d x hd hxj how
        exact (b6 j d x hd hxj how).mono (fun _ _ h _ => h) (fun c h => hcell c _ _ h)
    · intro b1 b2 h1 h2 he
      simp at h1 h2
      exact hI.inj b1 b2 h1 h2 he
  · refine ⟨.refl g, ?_, ?_, ?_, by simp, rfl, rfl, rfl, ?_⟩
    · intro c hc
      rcases hO c with h | ⟨h, _⟩
      · exact ⟨by rw [h]; exact hc, rfl⟩
      · exact absurd hc h
    · intro b' hb' hn
      have hne : b' ≠ b := by rintro rfl; exact hpr hb'
      rw [hI.num] at hn
      exact setRow_other _ _ _ _ fun h => hne (hI.inj b' b hn hbl h)
    · intro i hi
      exact setRow_other _ _ _ _ (by omega)
    · intro i hi cs' E' fr hc
      by_cases hie : i = g.V b
      · subst hie
        rw [a4] at hc
        cases hc
        exact ⟨_, setRow_heap _ _ _ _ _ _ a4, by simp; omega⟩
      · exact ⟨cs', by rw [setRow_other _ _ _ _ hie]; exact hc, rfl⟩

theorem store_run [LowPred] {t : TypeId} {c o : Nat} {old : Array Value} {E : TypeId} (h : w.heap[c]? = some (.cells old E (0, 0))) {x : Value} {n : Nat} (hn : szOf P t = some n) (hx : x.cells.size = n)
    (h1 : ∀ v ∈ x.cells.toList, v.oneCell' = true) (hle : o + n ≤ old.size) :
    (Instr.storeAt t (.pointer (some ⟨c, o, none⟩)) x).run P w = .ok () (w.setRow c (old.toList.take o ++ x.cells.toList ++ old.toList.drop (o + x.cells.toList.length)).toArray) := by
  have := run_storeCells_at P c o E x.cells.toList 0 old w h (by simp; omega) h1
  simp [Instr.storeAt, Instr.sureAddr, storeVar, run_sizeOf hn, hx]
  simpa [hx] using this

end Go.Zd
namespace Go.Zd
variable {P : Program} {g : Gh} {tm : List (Nat × DV)} {w : World} {ρ : Operand → Value} {O : Nat → Loc} {H : List (List DV)} {base : Nat} {PR : List Nat}

theorem flat_drop [LowPred] {es : List DV} {wd : Nat} (h : ∀ v ∈ es, v.cells.length = wd) (i : Nat) : flat (es.drop i) = (flat es).drop (i * wd) := by
  induction es generalizing i with
  | nil => simp [flat]
  | cons u es ih =>
    have hu := h u (by simp)
    have hr : ∀ v ∈ es, v.cells.length = wd := fun v hv => h v (by simp [hv])
    cases i with
    | zero => simp
    | succ i => rw [List.drop_succ_cons, ih hr i, flat_cons, Nat.add_mul, Nat.one_mul, Nat.add_comm (i * wd) wd, ← hu, ← List.drop_drop, List.drop_left]

theorem flat_take [LowPred] {es : List DV} {wd : Nat} (h : ∀ v ∈ es, v.cells.length = wd) (n : Nat) : flat (es.take n) = (flat es).take (n * wd) := by
  induction es generalizing n with
  | nil => simp [flat]
  | cons u es ih =>
    have hu := h u (by simp)
    have hr : ∀ v ∈ es, v.cells.length = wd := fun v hv => h v (by simp [hv])
    cases n with
    | zero => simp [flat]
    | succ n => rw [List.take_succ_cons, flat_cons, flat_cons, ih hr n, Nat.add_mul, Nat.one_mul, Nat.add_comm (n * wd) wd, ← hu, List.take_length_add_append]

theorem flat_take_drop [LowPred] {es : List DV} {wd : Nat} (h : ∀ v ∈ es, v.cells.length = wd) (i len : Nat) : flat ((es.drop i).take len) = ((flat es).drop (i * wd)).take (len * wd) := by
  rw [flat_take (fun v hv => h v (List.mem_of_mem_drop hv)), flat_drop h]

/-- the cells of a slice -/
theorem slice_cells [LowPred] (hI : Inv w g O H base) {c i len : Nat} {ga : GA} (h1 : g.G c = some ga) (h2 : i + len ≤ ga.es.length) :
    ∃ xs : List Value, xs.length = len * ga.wd ∧ (∀ j v, xs[j]? = some v → w.cell? ((⟨c, ga.st + i * ga.wd, none⟩ : Addr).add j) = some v) ∧ VRL g xs (flat ((ga.es.drop i).take len)) ∧
      (∀ v ∈ (ga.es.drop i).take len, v.elemOk ga.wd = true) := by
  obtain ⟨cs, E, fr, a1, a2, a3, a4, a5, a6, _⟩ := hI.arr _ _ h1
  have hlen : ∀ v ∈ ga.es, v.cells.length = ga.wd := fun v hv => elemOk_len (a5 v hv)
  have hm : (i + len) * ga.wd ≤ ga.es.length * ga.wd := Nat.mul_le_mul_right _ h2
  rw [Nat.add_mul] at hm
  have e : ((List.drop (i * ga.wd) (List.take (ga.es.length * ga.wd) (List.drop ga.st cs.toList)))).take (len * ga.wd) = (cs.toList.drop (ga.st + i * ga.wd)).take (len * ga.wd) := by
    rw [List.drop_take, List.drop_drop, List.take_take, Nat.min_eq_left (by omega)]
  refine ⟨(cs.toList.drop (ga.st + i * ga.wd)).take (len * ga.wd), by simp; omega, ?_, ?_, ?_⟩
  · intro j v hj
    rw [addr_add _ _ rfl, cell_at a1]
    have hlt := (List.getElem?_eq_some_iff.1 hj).1
    rw [List.getElem?_take_of_lt (by simp at hlt; omega), List.getElem?_drop] at hj
    simpa using hj
  · rw [flat_take_drop hlen, ← e]
    exact (a6.drop _).take _
  · intro v hv
    exact a5 v (List.mem_of_mem_drop (List.mem_of_mem_take hv))

theorem elemOk_cellOk {wd : Nat} {v : DV} (h : v.elemOk wd = true) (b : Nat) : v.cells.all (DV.cellOk b) = true := by
  simp only [DV.elemOk, Bool.and_eq_true] at h
  refine List.all_eq_true.2 fun d hd => ?_
  have := List.all_eq_true.1 h.2 d hd
  cases d <;> simp [DV.plain1] at this <;> first | rfl | (simp [DV.cellOk, DV.ptrsLt])

theorem flat_cellOk [LowPred] {wd : Nat} {es : List DV} (h : ∀ v ∈ es, v.elemOk wd = true) (b : Nat) : (flat es).all (DV.cellOk b) = true := by
  refine List.all_eq_true.2 fun d hd => ?_
  obtain ⟨v, hv, hd⟩ := List.mem_flatMap.1 hd
  exact List.all_eq_true.1 (elemOk_cellOk (h v hv) b) d hd

theorem Inv.of_heap [LowPred] {w' : World} (hI : Inv w g O H base) (h : w'.heap = w.heap) : Inv w' g O H base :=
  ⟨hI.num, by rw [h]; exact hI.le, by rw [h]; exact hI.dom, by rw [h]; exact hI.arr, by rw [h]; exact hI.var, hI.inj, by rw [h]; exact hI.low, hI.lowOk⟩

/-- another place for a right that nobody in the heap holds -/
theorem Inv.reown [LowPred] (hI : Inv w g O H base) {c : Nat} {d : Loc} (hc : c < w.heap.size) (hH : ∀ b ds j dv x, H[b]? = some ds → ds[j]? = some dv → isOwn dv = true → (∃ i len cap ga, x = Value.slice (some ⟨c, ga.st + i * ga.wd, none⟩) len cap ∧ g.G c = some ga) → O c ≠ .cell b j) :
    Inv w g (fun k => if k = c then d else O k) H base := by
  refine ⟨hI.num, hI.le, ?_, hI.arr, ?_, hI.inj, hI.low, hI.lowOk⟩
  · intro k hk
    have : k ≠ c := by omega
    simp [this, hI.dom k hk]
  · intro b ds hb
    obtain ⟨a1, a2, a3, cs, E, a4, a5, a6⟩ := hI.var b ds hb
    refine ⟨a1, a2, a3, cs, E, a4, a5, ?_⟩
    intro j dv x hd hx ho
    obtain ⟨c', i, len, cap, ga, e, h1, h2, h3, h4⟩ := a6 j dv x hd hx ho
    have : c' ≠ c := by
      rintro rfl
      exact hH b ds j dv x hb hd ho ⟨i, len, cap, ga, e, h1⟩ h4
    exact ⟨c', i, len, cap, ga, e, h1, h2, h3, by simp [this, h4]⟩


theorem grownCap_ge (w : World) (need old : Nat) (e : TypeId) : need ≤ grownCap w need old e := by
  unfold grownCap Question.cut
  exact Nat.le_add_right _ _

/-- appending to a slice that has to be copied: it is nil, or full, or there is no room -/
theorem append_new [LowPred] (hI : Inv w g O H base) {t ty e : TypeId} {ie : TypeInfo} {zv : Value} (hu : P.underlying t = some (.slice e)) (hi : P.info? e = some ie) (hz : ie.zero = some zv)
    (hzs : zv.cells.size = ie.size) (hs0 : 0 < ie.size) (hb : ie.bytes ≤ 65536) {x y : Value} {as bs : List DV} {d : Loc}
    (hx : (x = .slice none 0 0 ∧ as = []) ∨ ∃ c i len cap ga, x = .slice (some ⟨c, ga.st + i * ga.wd, none⟩) len cap ∧ g.G c = some ga ∧ i + len ≤ ga.es.length ∧ as = (ga.es.drop i).take len ∧ cap < len + bs.length ∧ ga.wd = ie.size)
    (hy : ∃ c i len cap ga, y = .slice (some ⟨c, ga.st + i * ga.wd, none⟩) len cap ∧ g.G c = some ga ∧ i + len ≤ ga.es.length ∧ bs = (ga.es.drop i).take len ∧ ga.wd = ie.size)
    (hne : bs ≠ []) (hsz : as.length + bs.length ≤ 16777216) :
    ∃ z w' g', (Builtin.append_ #[t, t] ty #[x, y]).run P w = .ok z w' ∧ VR g' z (.slice .own ie.size (as ++ bs)) ∧
      Inv w' g' (fun k => if k = w.heap.size then d else O k) H base ∧ Hist w g O base PR w' g' (fun k => if k = w.heap.size then d else O k) ∧
      OwnAt g' (fun k => if k = w.heap.size then d else O k) base z d ∧ (∀ k, k ≠ w.heap.size → g'.G k = g.G k) := by
  obtain ⟨cy, iy, ny, capy, gy, rfl, hgy, hly, hbs, hwy⟩ := hy
  obtain ⟨ys, hy1, hy2, hy3, hy4⟩ := slice_cells hI hgy hly
  rw [← hbs] at hy3 hy4
  rw [hwy] at hy1 hy4
  have hnb : bs.length = ny := by rw [hbs]; simp; omega
  have hny : 0 < ny := by
    rcases Nat.eq_zero_or_pos ny with h | h
    · exact absurd (List.length_eq_zero_iff.1 (by omega)) hne
    · exact h
  -- the run, the old cells
  have main : ∃ (xs : List Value) (old : Nat), VRL g xs (flat as) ∧ (∀ v ∈ as, v.elemOk ie.size = true) ∧ xs.length = as.length * ie.size ∧
      (Builtin.append_ #[t, t] ty #[x, .slice (some ⟨cy, gy.st + iy * gy.wd, none⟩) ny capy]).run P w =
        .ok (.slice (some ⟨w.heap.size, 0, none⟩) (as.length + ny) (grownCap w (as.length + ny) old e))
          (w.drew.alloc (.cells (xs.toArray ++ ys.toArray ++ Builtin.zeroCells zv.cells (grownCap w (as.length + ny) old e - (as.length + ny))) e)) := by
    rcases hx with ⟨rfl, rfl⟩ | ⟨c, i, len, cap, ga, rfl, h1, h2, ha, h3, h4⟩
    · refine ⟨[], 0, .nil, by simp, by simp, ?_⟩
      have h48 : ny * ie.bytes ≤ 281474976710656 := by
        have : ny * ie.bytes ≤ 16777216 * 65536 := Nat.mul_le_mul (by simp at hsz; omega) hb
        omega
      have := run_append_nil (P := P) w t ty e ie zv hu hi hz ⟨cy, gy.st + iy * gy.wd, none⟩ ny capy ys (by rw [hy1]) hy2 hny (by simp at hsz; omega) h48
      simpa using this
    · obtain ⟨xs, hx1, hx2, hx3, hx4⟩ := slice_cells hI h1 h2
      rw [← ha] at hx3 hx4
      rw [h4] at hx1 hx4
      have hal : as.length = len := by rw [ha]; simp; omega
      refine ⟨xs, cap, hx3, hx4, by rw [hal]; exact hx1, ?_⟩
      have hbits : (len + ny) * ie.bytes ≤ 140737488355328 := by
        have : (len + ny) * ie.bytes ≤ 16777216 * 65536 := Nat.mul_le_mul (by omega) hb
        omega
      have := run_append_grow (P := P) w t ty e ie zv hu hi hz ⟨c, ga.st + i * ga.wd, none⟩ len cap xs hx1 hx2 ⟨cy, gy.st + iy * gy.wd, none⟩ ny capy ys (by rw [hy1]) hy2 (by omega) (by omega)
        (growslice_fits (by omega) hbits)
      rw [hal]
      exact this
  obtain ⟨xs, old, m1, m2, m3, m4⟩ := main
  have hge := grownCap_ge w (as.length + ny) old e
  generalize grownCap w (as.length + ny) old e = nc at m4 hge
  have hIw : Inv w.drew g O H base := hI.of_heap rfl
  have hall : ∀ v ∈ as ++ bs, v.elemOk ie.size = true := by
    intro v hv
    rcases List.mem_append.1 hv with h | h
    · exact m2 v h
    · exact hy4 v h
  have hzc : (Builtin.zeroCells zv.cells (nc - (as.length + ny))).size = (nc - (as.length + ny)) * ie.size := by simp [Builtin.zeroCells, hzs]
  have hcs : (xs.toArray ++ ys.toArray ++ Builtin.zeroCells zv.cells (nc - (as.length + ny))).size = nc * ie.size := by
    simp only [Array.size_append, List.size_toArray, hzc, m3, hy1]
    rw [← Nat.add_mul, ← Nat.add_mul]
    congr 1; omega
  obtain ⟨i1, i2, i3⟩ := hIw.newArr (PR := PR) (E := e) (cells := xs.toArray ++ ys.toArray ++ Builtin.zeroCells zv.cells (nc - (as.length + ny))) (ga := ⟨0, ie.size, nc * ie.size, as ++ bs⟩)
    hcs hs0 (by simp only [Nat.zero_add, List.length_append, hnb]; exact Nat.mul_le_mul_right _ hge) hall (by
      simp only [List.drop_zero, Array.toList_append, List.length_append, hnb]
      have hl : (xs ++ ys).length = (as.length + ny) * ie.size := by simp [m3, hy1, Nat.add_mul]
      rw [List.take_append_of_le_length (Nat.le_of_eq hl.symm), List.take_of_length_le (Nat.le_of_eq hl), flat_append]
      exact m1.append hy3)
  have hsz0 : w.drew.heap.size = w.heap.size := rfl
  rw [hsz0] at i1 i2
  have hgn : g.G w.heap.size = none := i3
  refine ⟨_, _, g.addArr w.heap.size ⟨0, ie.size, nc * ie.size, as ++ bs⟩, m4, ?_, ?_, ?_, ?_, fun k hk => by simp [Gh.addArr, hk]⟩
  · have := VR.newSlice (g := g) (c := w.heap.size) (ga := ⟨0, ie.size, nc * ie.size, as ++ bs⟩) rfl (fl := .own) (cap := nc) (by simp [hnb]; exact hge) (Nat.le_refl _) (by intro h; cases h)
    simpa [hnb] using this
  · refine i1.reown (by rw [alloc_size]; exact Nat.lt_succ_self _) ?_
    intro b ds j dv x hb hd ho _
    rw [hI.dom _ (Nat.le_refl _)]
    simp
  · refine ⟨i2.ext, ?_, i2.prot, i2.low, i2.size, i2.os, i2.out, i2.tp, i2.sorts⟩
    intro c hc
    have hne : c ≠ w.heap.size := by rintro rfl; rw [hI.dom _ (Nat.le_refl _)] at hc; cases hc
    exact ⟨by simp [hne, hc], (i2.rest c hc).2⟩
  · exact ⟨w.heap.size, 0, as.length + ny, nc, ⟨0, ie.size, nc * ie.size, as ++ bs⟩, by simp, by simp [Gh.addArr], by simp [hnb], hI.le, by simp⟩


/-- appending in place: the slice ends where its array ends -/
theorem append_room [LowPred] (hI : Inv w g O H base) {t ty e : TypeId} {ie : TypeInfo} (hu : P.underlying t = some (.slice e)) (hi : P.info? e = some ie)
    (_hs0 : 0 < ie.size) {y : Value} {as bs : List DV} {d l0 : Loc} {c i len cap : Nat} {ga : GA} (h1 : g.G c = some ga) (h2 : i + len = ga.es.length) (h3 : ga.st + (i + cap) * ga.wd ≤ ga.sz) (hw : ga.wd = ie.size)
    (ha : as = (ga.es.drop i).take len) (hbase : base ≤ c) (hO : O c = l0) (hl0 : l0 ≠ .rest) (hl1 : ∀ b ds j dv, H[b]? = some ds → ds[j]? = some dv → isOwn dv = true → l0 ≠ .cell b j)
    (hy : ∃ c i len cap ga, y = .slice (some ⟨c, ga.st + i * ga.wd, none⟩) len cap ∧ g.G c = some ga ∧ i + len ≤ ga.es.length ∧ bs = (ga.es.drop i).take len ∧ ga.wd = ie.size)
    (hroom : len + bs.length ≤ cap) :
    ∃ w' g', (Builtin.append_ #[t, t] ty #[.slice (some ⟨c, ga.st + i * ga.wd, none⟩) len cap, y]).run P w = .ok (.slice (some ⟨c, ga.st + i * ga.wd, none⟩) (len + bs.length) cap) w' ∧
      VR g' (.slice (some ⟨c, ga.st + i * ga.wd, none⟩) (len + bs.length) cap) (.slice .own ie.size (as ++ bs)) ∧
      Inv w' g' (fun k => if k = c then d else O k) H base ∧ Hist w g O base PR w' g' (fun k => if k = c then d else O k) ∧
      OwnAt g' (fun k => if k = c then d else O k) base (.slice (some ⟨c, ga.st + i * ga.wd, none⟩) (len + bs.length) cap) d ∧ (∀ k, k ≠ c → g'.G k = g.G k) := by
  obtain ⟨cy, iy, ny, capy, gy, rfl, hgy, hly, hbs, hwy⟩ := hy
  obtain ⟨ys, hy1, hy2, hy3, hy4⟩ := slice_cells hI hgy hly
  rw [← hbs] at hy3 hy4
  rw [hwy] at hy1 hy4
  have hnb : bs.length = ny := by rw [hbs]; simp; omega
  rw [hnb] at hroom ⊢
  obtain ⟨cs, E, fr, a1, a2, a3, a4, a5, a6, a7⟩ := hI.arr c ga h1
  rw [a7 hbase] at a1
  have hmul : (i + (len + ny)) * ga.wd ≤ (i + cap) * ga.wd := Nat.mul_le_mul_right _ (by omega)
  have hpos : ga.st + (i + len) * ga.wd + ny * ga.wd ≤ ga.sz := by
    have : (i + (len + ny)) * ga.wd = (i + len) * ga.wd + ny * ga.wd := by rw [← Nat.add_assoc, Nat.add_mul]
    omega
  have hone : ∀ v ∈ ys, v.oneCell' = true := hy3.oneCell (flat_cellOk hy4 0)
  -- the run
  have hf := run_firstCells_some (P := P) w ie.size ny ⟨cy, gy.st + iy * gy.wd, none⟩ ny capy ys hy1 hy2
  have hst := run_storeCells_at P c (ga.st + (i + len) * ga.wd) E ys 0 cs w a1 (by rw [hy1, a2, ← hw]; simpa using hpos) hone
  have hadd : (⟨c, ga.st + i * ga.wd, none⟩ : Addr).add (len * ie.size) = ⟨c, ga.st + (i + len) * ga.wd, none⟩ := by
    rw [addr_add _ _ rfl, ← hw, Nat.add_mul, Nat.add_assoc]
  let cells := (cs.toList.take (ga.st + (i + len) * ga.wd) ++ ys ++ cs.toList.drop (ga.st + (i + len) * ga.wd + ys.length)).toArray
  have hrun : (Builtin.append_ #[t, t] ty #[.slice (some ⟨c, ga.st + i * ga.wd, none⟩) len cap, .slice (some ⟨cy, gy.st + iy * gy.wd, none⟩) ny capy]).run P w =
      .ok (.slice (some ⟨c, ga.st + i * ga.wd, none⟩) (len + ny) cap) (w.setRow c cells) := by
    simp only [Nat.add_zero] at hst
    have hsz : ∀ w, (sizeOf e).run P w = .ok ie.size w := run_sizeOf (by simp [szOf, hi])
    simp [Builtin.append_, run_underlying hu, hsz, Builtin.lenOf, hroom, hf, hadd, hst, cells]
  -- the ghost
  let ga' : GA := { ga with es := ga.es ++ bs }
  let g' : Gh := { g with G := fun k => if k = c then some ga' else g.G k }
  have hle : g.Le g' := by
    refine ⟨fun k gk hk => ?_, fun _ _ => rfl, Nat.le_refl _, rfl⟩
    by_cases hkc : k = c
    · subst hkc; rw [h1] at hk; cases hk; exact ⟨bs, by simp [g', ga']⟩
    · exact ⟨[], by simp [g', hkc, hk]⟩
  have hg'c : g'.G c = some ga' := by simp [g']
  have hO' : ∀ k l, O k = l → l ≠ l0 → (if k = c then d else O k) = l := by
    intro k l hk hne
    have : k ≠ c := by rintro rfl; exact hne (hk.symm.trans hO)
    simp [this, hk]
  have hclt : c < w.heap.size := heap_lt a1
  have hbo : ∀ b ds, H[b]? = some ds → g.V b ≠ c := by
    intro b ds hb he
    obtain ⟨_, h, _⟩ := hI.var b ds hb
    rw [he, h1] at h; cases h
  have hcsz : cells.size = ga.sz := by
    simp only [cells, List.size_toArray, List.length_append, List.length_take, List.length_drop, Array.length_toList]
    rw [hy1, a2, ← hw]; omega
  have hVR : VR g' (.slice (some ⟨c, ga.st + i * ga.wd, none⟩) (len + ny) cap) (.slice .own ie.size (as ++ bs)) := by
    have := VR.slice (g := g') c i (len + ny) cap ga' .own hg'c (by simp [ga', hnb]; omega) hroom h3 (by intro h; cases h)
    have e : ((ga.es ++ bs).drop i).take (len + ny) = as ++ bs := by
      have h5 : (ga.es.drop i).length = len := by simp; omega
      rw [List.drop_append_of_le_length (by omega), ha, List.take_of_length_le (l := ga.es.drop i) (by omega)]
      rw [List.take_of_length_le (by simp; omega)]
    simp only [ga'] at this
    rw [e, hw] at this
    rw [hw]
    exact this
  refine ⟨w.setRow c cells, g', hrun, hVR, ⟨hI.num, by simpa using hI.le, ?_, ?_, ?_, hI.inj, fun i hi => (setRow_other _ _ _ _ (by omega)).trans (hI.low i hi), hI.lowOk⟩, ⟨hle, ?_, ?_, ?_, by simp, rfl, rfl, rfl, ?_⟩, ?_, fun k hk => by simp [g', hk]⟩
  · intro k hk
    simp at hk
    have : k ≠ c := by omega
    simp [this, hI.dom k hk]
  · intro k gk hk
    by_cases hkc : k = c
    · subst hkc
      rw [hg'c] at hk; cases hk
      refine ⟨cells, E, (0, 0), setRow_heap _ _ _ _ _ _ a1, hcsz, a3, ?_, ?_, ?_, fun _ => rfl⟩
      · simp only [ga', List.length_append, hnb]
        rw [← h2, Nat.add_mul]; omega
      · intro v hv
        simp only [ga'] at hv ⊢
        rcases List.mem_append.1 hv with h | h
        · exact a5 v h
        · rw [hw]; exact hy4 v h
      · simp only [ga', List.length_append, hnb, flat_append]
        refine VRL.mono hle ?_
        have e1 : (cells.toList.drop ga.st).take ((ga.es.length + ny) * ga.wd) = (cs.toList.drop ga.st).take (ga.es.length * ga.wd) ++ ys := by
          simp only [cells]
          have hl1 : (cs.toList.take (ga.st + (i + len) * ga.wd)).length = ga.st + (i + len) * ga.wd := by simp; omega
          rw [List.append_assoc, List.drop_append_of_le_length (by rw [hl1]; omega), ← List.append_assoc]
          have hl2 : ((cs.toList.take (ga.st + (i + len) * ga.wd)).drop ga.st ++ ys).length = (ga.es.length + ny) * ga.wd := by
            rw [List.length_append, List.length_drop, hl1, hy1, ← hw, h2, Nat.add_mul]; omega
          rw [List.take_append_of_le_length (Nat.le_of_eq hl2.symm), List.take_of_length_le (Nat.le_of_eq hl2)]
          congr 1
          rw [List.drop_take, h2]
          congr 1; omega
        rw [e1]
        exact a6.append hy3
    · simp only [g', hkc, if_false] at hk
      obtain ⟨ds, E', fr', b1, b2, b3, b4, b5, b6, b7⟩ := hI.arr k gk hk
      exact ⟨ds, E', fr', by rw [setRow_other _ _ _ _ hkc]; exact b1, b2, b3, b4, b5, b6.mono hle, b7⟩
  · intro b ds hb
    obtain ⟨b1, b2, b3, ds', E', b4, b5, b6⟩ := hI.var b ds hb
    have hne := hbo b ds hb
    refine ⟨b1, by simp [g', hne, b2], b3, ds', E', by show (w.setRow c cells).heap[g.V b]? = _; rw [setRow_other _ _ _ _ hne]; exact b4, b5.mono hle, ?_⟩
    intro j dv x hd hx ho
    have := b6 j dv x hd hx ho
    refine this.mono ?_ ?_
    · intro k gk hk hok
      have : k ≠ c := by rintro rfl; exact hl1 b ds j dv hb hd ho (hO.symm.trans hok)
      simp [g', this, hk]
    · intro k hk
      exact hO' k _ hk (fun h => hl1 b ds j dv hb hd ho h.symm)
  · intro k hk
    have : k ≠ c := by rintro rfl; exact hl0 (hO.symm.trans hk)
    exact ⟨by simp [this, hk], by simp [g', this]⟩
  · intro b hb hn
    rw [hI.num] at hn
    exact setRow_other _ _ _ _ (hbo b _ (List.getElem?_eq_getElem hn))
  · intro k hk; exact setRow_other _ _ _ _ (by omega)
  · intro k hk cs' E' fr' hc
    by_cases hkc : k = c
    · subst hkc; rw [a1] at hc; cases hc
      exact ⟨cells, setRow_heap _ _ _ _ _ _ a1, by rw [hcsz, a2]⟩
    · exact ⟨cs', by rw [setRow_other _ _ _ _ hkc]; exact hc, rfl⟩
  · exact ⟨c, i, len + ny, cap, ga', rfl, hg'c, by simp [ga', hnb]; omega, hbase, by simp⟩

end Go.Zd
