/- Calls, appends, stores. -/
import Derived.Test.YthcoldfgpigdhaaGreatDoorZD
namespace Go.Zd

variable {P : Program} {g : Gh} {tmi : List (Nat × DV)} {w : World} {O : Nat → Loc} {H : List (List DV)} {base : Nat} {PR : List Nat}

def RetR [LowPred] (base : Nat) (PR : List Nat) (w : World) (g : Gh) (O : Nat → Loc) (out : Out) (H' : List (List DV)) (e : Ending) (w' : World) : Prop :=
  ∃ g' O', Inv w' g' O' H' base ∧ Hist w g O base PR w' g' O' ∧
    match out with
    | .ret v => ∃ x, e = .returned x ∧ VR g' x v ∧ (isOwn v = true → OwnAt g' O' base x .res)
    | .panic v => ∃ x, e = .panicked [{ v := x, recovered := false }] ∧ VR g' x v

/-- a function with a body -/
def Enters (P : Program) (f : Nat) : Prop := ∃ fn, P.funcs[f]? = some fn ∧ fn.body.isNone = false ∧ (fn.name == "runtime.NumGoroutine") = false

def CallSim [LowPred] (P : Program) (F : Nat → Option DFn) (rec : Rec) (base : Nat) : Prop :=
  ∀ PR f args H out H', callF F rec PR f args H = some (out, H') → Enters P f ∧
    ∀ w g O vals, Inv w g O H base → (∀ c t, O c ≠ .slot t) → (∀ c, O c ≠ .res) → VRL g vals args →
      Calls P f vals.toArray w (RetR base PR w g O out H')

theorem Enters.run {f : Nat} (h : Enters P f) (args : Array Value) (w : World) : (callFunc f args).run P w = .ok (.enter f args) w := by
  obtain ⟨fn, h1, h2, h3⟩ := h
  have h4 : fn.name ≠ "runtime.NumGoroutine" := by simpa using h3
  cases hb : fn.body with
  | none => rw [hb] at h2; cases h2
  | some c => simp [callFunc, h1, h4, hb]

theorem Inv.relabel [LowPred] (hI : Inv w g O H base) {O2 : Nat → Loc} (h1 : ∀ c, w.heap.size ≤ c → O2 c = .none) (h2 : ∀ c b j, O c = .cell b j → O2 c = .cell b j) : Inv w g O2 H base := by
  refine ⟨hI.num, hI.le, h1, hI.arr, ?_, hI.inj, hI.low, hI.lowOk⟩
  intro b ds hb
  obtain ⟨a1, a2, a3, cs, E, a4, a5, a6⟩ := hI.var b ds hb
  exact ⟨a1, a2, a3, cs, E, a4, a5, fun j d x hd hx ho => (a6 j d x hd hx ho).mono (fun _ _ h _ => h) (fun c hc => h2 c b j hc)⟩

theorem Inv.hidden [LowPred] (hI : Inv w g O H base) : Inv w g (hide O) H base := by
  refine hI.relabel ?_ ?_
  · intro c hc; simp [Zd.hide, hI.dom c hc]
  · intro c b j hc; simp [Zd.hide, hc]

/-- the rights after a call -/
def after (O O' : Nat → Loc) (dl : Loc) : Nat → Loc := fun c => match O c with
  | .slot t => .slot t
  | _ => match O' c with
    | .res => dl
    | .slot _ => .none
    | l => l

theorem hide_ne_slot (O : Nat → Loc) (c t : Nat) : hide O c ≠ .slot t := by
  unfold hide
  cases O c <;> simp
theorem hide_ne_res (O : Nat → Loc) (c : Nat) : hide O c ≠ .res := by
  unfold hide
  cases O c <;> simp
theorem hide_slot {c t : Nat} (h : O c = .slot t) : hide O c = .rest := by simp [hide, h]

theorem Inv.after [LowPred] {w' : World} {g' : Gh} {O' : Nat → Loc} {H' : List (List DV)} (hI : Inv w g O H base) (hI' : Inv w' g' O' H' base) (hh : Hist w g (hide O) base PR w' g' O') (dl : Loc) :
    Inv w' g' (after O O' dl) H' base ∧ Hist w g O base PR w' g' (after O O' dl) := by
  have hs : ∀ c l, O' c = l → l ≠ .rest → ∀ t, O c ≠ .slot t := by
    intro c l hl hr t ht
    exact hr (hl.symm.trans (hh.rest c (hide_slot ht)).1)
  constructor
  · refine hI'.relabel ?_ ?_
    · intro c hc
      have h1 : O c = .none := hI.dom c (Nat.le_trans hh.size hc)
      simp [Zd.after, h1, hI'.dom c hc]
    · intro c b j hc
      have := hs c _ hc (by simp)
      unfold Zd.after
      split
      · rename_i t ht; exact absurd ht (this t)
      · simp [hc]
  · refine ⟨hh.ext, ?_, hh.prot, hh.low, hh.size, hh.os, hh.out, hh.tp, hh.sorts⟩
    intro c hc
    have h1 : Zd.hide O c = .rest := by simp [Zd.hide, hc]
    have h2 := hh.rest c h1
    exact ⟨by simp [Zd.after, hc, h2.1], h2.2⟩

def dstLoc : Option Nat → Loc
  | some t => .slot t
  | none => .none

theorem sim_call [LowPred] {F : Nat → Option DFn} {rec : Rec} (hcs : CallSim P F rec base) {s s' : RSt} {a : Act} {o : Oper} {df : DX} {l : List DX} {y : Option DV} (he : EInv P o (.call df l)) (hp : Pre base s a w g O (.call df l) tmi)
    {out : Out} {H' : List (List DV)} (h : callOp F rec PR s l (rdc s.st.tm df) = some (out, H'))
    (hs1 : ∀ v, out = .ret v → y = none ∧ s' = { s with st := setDst { s.st with H := H' } o.dst v }) (hs2 : ∀ v, out = .panic v → y = some v ∧ s' = { s with st := { s.st with H := H' } }) : OpSim P PR base o a w g O y s' := by
  obtain ⟨f, args, tys, ho, hf, hl⟩ := he
  have hvf := hp.opr _ _ hf
  rw [hp.agree df (by simp [dxs])] at hvf
  have hva := opdL_VR hp.opr hl
  have hag : l.map (rdc tmi) = l.map (rdc s.st.tm) := List.map_congr_left fun x hx => hp.agree x (by simp [dxs, hx])
  rw [hag] at hva
  unfold callOp at h
  split at h
  · rename_i gf first caps hfv
    rw [hfv] at hvf
    generalize hX : a.eval f = fv at hvf
    cases hvf with
    | func _ A B _ _ hA hB =>
    obtain ⟨hent, hcall⟩ := hcs _ _ _ _ _ _ h
    have hvr : VRL g (A.toList ++ args.toList.map a.eval ++ B.toList) (first ++ l.map (rdc s.st.tm) ++ caps) := (hA.append hva).append hB
    have := hcall w g (hide O) _ hp.inv.hidden (fun c t => hide_ne_slot O c t) (fun c => hide_ne_res O c) hvr
    have hr : (execOp a.eval o).run P w = .ok (.enter gf (A.toList ++ args.toList.map a.eval ++ B.toList).toArray) w := by
      have e := hent.run (A ++ args.map a.eval ++ B) w
      have e2 : (A.toList ++ args.toList.map a.eval ++ B.toList).toArray = A ++ args.map a.eval ++ B := by
        apply Array.toList_inj.1
        simp
      rw [e2]
      rw [Array.append_assoc] at e ⊢
      simp [execOp, ho, resolve, hX, Deferred.ofValue, invoke, e]
    intro next Q h1 h2
    unfold Oper.wp
    rw [hr, Oper.upon_enter]
    refine Calls.mono this ?_
    intro e w' hR
    obtain ⟨g', O', hI', hh, hres⟩ := hR
    obtain ⟨i1, i2⟩ := hp.inv.after hI' hh (dstLoc o.dst)
    have hs0 : ∀ c l, O' c = l → l ≠ .rest → ∀ t, O c ≠ .slot t := by
      intro c l hl hr t ht
      exact hr (hl.symm.trans (hh.rest c (hide_slot ht)).1)
    cases out with
    | ret v =>
      obtain ⟨rfl, rfl⟩ := hs1 v rfl
      obtain ⟨x, rfl, hx, hown⟩ := hres
      refine h1 rfl _ _ _ _ ⟨by rw [setDst_H]; exact i1, i2, ?_, ?_⟩
      · intro t ht
        rw [ht, setDst_look_self]
        refine ⟨hx.clean, fun ho' => ?_⟩
        refine (hown ho').mono (fun _ _ h _ => h) ?_
        intro c hc
        have := hs0 c _ hc (by simp)
        unfold after
        split
        · rename_i t ht; exact absurd ht (this t)
        · simp [hc, dstLoc]
      · intro c t hc hne _
        refine ⟨by simp [after, hc], (hh.rest c (hide_slot hc)).2⟩
    | panic v =>
      obtain ⟨rfl, rfl⟩ := hs2 v rfl
      obtain ⟨x, rfl, hx⟩ := hres
      exact h2 _ rfl _ _ _ _ hx i1 (i2.mono fun b hb => List.mem_append_left _ hb)
  · cases h

end Go.Zd
namespace Go.Zd

variable {P : Program} {g : Gh} {tmi : List (Nat × DV)} {w : World} {O : Nat → Loc} {H : List (List DV)} {base : Nat} {PR : List Nat}

/-- a slice that is full, or nil, or shared: as it may lie -/
theorem slice_data {x : Value} {wd : Nat} {fl : Fl} {es : List DV} (h : VR g x (.slice fl wd es)) :
    ∃ c i len cap ga, x = .slice (some ⟨c, ga.st + i * ga.wd, none⟩) len cap ∧ g.G c = some ga ∧ i + len ≤ ga.es.length ∧ es = (ga.es.drop i).take len ∧ ga.wd = wd ∧ ga.st + (i + cap) * ga.wd ≤ ga.sz ∧ (fl = .ti → cap = len) ∧ es.length = len := by
  cases h with
  | slice c i len cap ga fl h hi hc hz hf => exact ⟨c, i, len, cap, ga, rfl, h, hi, rfl, rfl, hz, hf, by simp; omega⟩

/-- appending where the old slice owns nothing of use: it is nil, or full -/
theorem append_fresh [LowPred] (hI : Inv w g O H base) {t ty e : TypeId} {ie : TypeInfo} {zv : Value} (hu : P.underlying t = some (.slice e)) (hi : P.info? e = some ie) (hz : ie.zero = some zv)
    (hzs : zv.cells.size = ie.size) (hs0 : 0 < ie.size) (hb : ie.bytes ≤ 65536) {x y : Value} {as bs : List DV} {fy : Fl} {d : Loc}
    (hx : (x = .slice none 0 0 ∧ as = []) ∨ VR g x (.slice .ti ie.size as))
    (hy : VR g y (.slice fy ie.size bs)) (hne : bs ≠ []) (hsz : as.length + bs.length ≤ 16777216) :
    ∃ z w' g' O', (Builtin.append_ #[t, t] ty #[x, y]).run P w = .ok z w' ∧ VR g' z (.slice .own ie.size (as ++ bs)) ∧ Inv w' g' O' H base ∧ Hist w g O base PR w' g' O' ∧ OwnAt g' O' base z d ∧
      (∀ k l, O k = l → l ≠ .none → O' k = l ∧ g'.G k = g.G k) := by
  have hy' : ∃ c i len cap ga, y = .slice (some ⟨c, ga.st + i * ga.wd, none⟩) len cap ∧ g.G c = some ga ∧ i + len ≤ ga.es.length ∧ bs = (ga.es.drop i).take len ∧ ga.wd = ie.size := by
    obtain ⟨c, i, len, cap, ga, h1, h2, h3, h4, h5, _⟩ := slice_data hy
    exact ⟨c, i, len, cap, ga, h1, h2, h3, h4, h5⟩
  have hb0 : 0 < bs.length := List.length_pos_iff.2 hne
  have hx' : (x = .slice none 0 0 ∧ as = []) ∨ ∃ c i len cap ga, x = .slice (some ⟨c, ga.st + i * ga.wd, none⟩) len cap ∧ g.G c = some ga ∧ i + len ≤ ga.es.length ∧ as = (ga.es.drop i).take len ∧ cap < len + bs.length ∧ ga.wd = ie.size := by
    rcases hx with h | h
    · exact .inl h
    · obtain ⟨c, i, len, cap, ga, h1, h2, h3, h4, h5, h6, h7, _⟩ := slice_data h
      exact .inr ⟨c, i, len, cap, ga, h1, h2, h3, h4, by rw [h7 rfl]; omega, h5⟩
  obtain ⟨z, w', g', a1, a2, a3, a4, a5, a6⟩ := append_new (PR := PR) (ty := ty) (d := d) hI hu hi hz hzs hs0 hb hx' hy' hne hsz
  refine ⟨z, w', g', _, a1, a2, a3, a4, a5, ?_⟩
  intro k l hk hl
  have : k ≠ w.heap.size := by rintro rfl; rw [hI.dom _ (Nat.le_refl _)] at hk; exact hl hk.symm
  exact ⟨by simp [this, hk], a6 k this⟩

/-- appending to a slice whose right lies at l0 -/
theorem append_own [LowPred] (hI : Inv w g O H base) {t ty e : TypeId} {ie : TypeInfo} {zv : Value} (hu : P.underlying t = some (.slice e)) (hi : P.info? e = some ie) (hz : ie.zero = some zv)
    (hzs : zv.cells.size = ie.size) (hs0 : 0 < ie.size) (hb : ie.bytes ≤ 65536) {x y : Value} {as bs : List DV} {fx fy : Fl} {d l0 : Loc}
    (hx : VR g x (.slice fx ie.size as)) (ho : OwnAt g O base x l0) (hl0 : l0 ≠ .rest) (hl1 : ∀ b ds j dv, H[b]? = some ds → ds[j]? = some dv → isOwn dv = true → l0 ≠ .cell b j)
    (hy : VR g y (.slice fy ie.size bs)) (hne : bs ≠ []) (hsz : as.length + bs.length ≤ 16777216) :
    ∃ z w' g' O', (Builtin.append_ #[t, t] ty #[x, y]).run P w = .ok z w' ∧ VR g' z (.slice .own ie.size (as ++ bs)) ∧ Inv w' g' O' H base ∧ Hist w g O base PR w' g' O' ∧ OwnAt g' O' base z d ∧
      (∀ k l, O k = l → l ≠ .none → l ≠ l0 → O' k = l ∧ g'.G k = g.G k) := by
  have hy' : ∃ c i len cap ga, y = .slice (some ⟨c, ga.st + i * ga.wd, none⟩) len cap ∧ g.G c = some ga ∧ i + len ≤ ga.es.length ∧ bs = (ga.es.drop i).take len ∧ ga.wd = ie.size := by
    obtain ⟨c, i, len, cap, ga, h1, h2, h3, h4, h5, _⟩ := slice_data hy
    exact ⟨c, i, len, cap, ga, h1, h2, h3, h4, h5⟩
  obtain ⟨c, i, len, cap, ga, rfl, h2, h3, h4, h5, h6, _, h8⟩ := slice_data hx
  obtain ⟨c', i', len', cap', ga', e', k1, k2, k3, k4⟩ := ho
  have hb0 : 0 < bs.length := List.length_pos_iff.2 hne
  simp only [Value.slice.injEq, Option.some.injEq, Addr.mk.injEq, and_true] at e'
  obtain ⟨⟨rfl, e2⟩, rfl, rfl⟩ := e'
  rw [h2] at k1; cases k1
  have hii : i' = i := by
    have : i * ga.wd = i' * ga.wd := by omega
    exact (Nat.eq_of_mul_eq_mul_right (by omega) this).symm
  subst hii
  by_cases hroom : len + bs.length ≤ cap
  · obtain ⟨w', g', a1, a2, a3, a4, a5, a6⟩ := append_room (PR := PR) (ty := ty) (d := d) hI hu hi hs0 h2 k2 h6 h5 h4 k3 k4 hl0 hl1 hy' hroom
    refine ⟨_, w', g', _, a1, a2, a3, a4, a5, ?_⟩
    intro k l hk _ hl
    have : k ≠ c := by rintro rfl; exact hl (hk.symm.trans k4)
    exact ⟨by simp [this, hk], a6 k this⟩
  · obtain ⟨z, w', g', a1, a2, a3, a4, a5, a6⟩ := append_new (PR := PR) (ty := ty) (d := d) hI hu hi hz hzs hs0 hb (.inr ⟨c, i', len, cap, ga, rfl, h2, h3, h4, by omega, h5⟩) hy' hne hsz
    refine ⟨z, w', g', _, a1, a2, a3, a4, a5, ?_⟩
    intro k l hk hl _
    have : k ≠ w.heap.size := by rintro rfl; rw [hI.dom _ (Nat.le_refl _)] at hk; exact hl hk.symm
    exact ⟨by simp [this, hk], a6 k this⟩

/-- appending nothing -/
theorem append_none [LowPred] {t ty e : TypeId} {ie : TypeInfo} (hu : P.underlying t = some (.slice e)) (hi : P.info? e = some ie) {x y : Value}
    (hx : ∃ a len cap, x = .slice a len cap ∧ len ≤ cap) (hy : ∃ a cap, y = .slice a 0 cap) :
    (Builtin.append_ #[t, t] ty #[x, y]).run P w = .ok x w := by
  have hsz : ∀ w, (sizeOf e).run P w = .ok ie.size w := run_sizeOf (by simp [szOf, hi])
  obtain ⟨ya, ycap, rfl⟩ := hy
  obtain ⟨xa, len, cap, rfl, hc⟩ := hx
  have hf : (Builtin.firstCells ie.size 0 (.slice ya 0 ycap)).run P w = .ok #[] w := by
    cases ya with
    | none => exact run_firstCells_none (P := P) w ie.size 0 0 ycap
    | some a =>
      have := run_firstCells_some (P := P) w ie.size 0 a 0 ycap [] (by simp) (by simp)
      exact this
  cases xa with
  | none => simp [Builtin.append_, run_underlying hu, hsz, Builtin.lenOf, hc, hf]
  | some a => simp [Builtin.append_, run_underlying hu, hsz, Builtin.lenOf, hc, hf, storeCells]

theorem elems_slice {x : Value} {d : DV} {es : List DV} (h : VR g x d) (he : elemsOf d = some es) : ∃ a cap, x = .slice a es.length cap ∧ es.length ≤ cap := by
  unfold elemsOf at he
  split at he
  · cases he; cases h; exact ⟨none, 0, rfl, Nat.le_refl _⟩
  · cases he
    cases h with
    | slice c i len cap ga fl h hi hc hz hf =>
      have : ((ga.es.drop i).take len).length = len := by simp; omega
      rw [this]
      exact ⟨_, cap, rfl, hc⟩
  · cases he

/-- the run of an append's operation -/
theorem app_run {o : Oper} {ρ : Operand → Value} {args : Array Operand} {tys : Array TypeId} {x y : Operand} {t : TypeId} (ho : o.op = .call { callee := .builtin .append, args, argTypes := tys })
    (ha : args.toList = [x, y]) (ht : tys.toList = [t, t]) {z : Value} {w' : World} (h : (Builtin.append_ #[t, t] o.type #[ρ x, ρ y]).run P w = .ok z w') :
    (execOp ρ o).run P w = .ok (.value z) w' := by
  obtain rfl : args = #[x, y] := by rw [← ha]
  obtain rfl : tys = #[t, t] := by rw [← ht]
  simp [execOp, ho, resolve, invoke, builtin, h]

end Go.Zd
namespace Go.Zd

variable {P : Program} {g : Gh} {tmi : List (Nat × DV)} {w : World} {O : Nat → Loc} {H : List (List DV)} {base : Nat} {PR : List Nat}

theorem VRL.set_clean {xs : List Value} {ds : List DV} (h : VRL g xs ds) {o : Nat} {v : DV} (hv : ds[o]? = some v) : VRL g xs (ds.set o v.clean) := by
  refine VRL.of_get (by rw [List.length_set]; exact h.length) ?_
  intro i x d hx hd
  rw [List.getElem?_set] at hd
  split at hd
  · rename_i hoi
    subst hoi
    split at hd
    · cases hd
      obtain ⟨y, hy, hr⟩ := h.get hv
      rw [hx] at hy; cases hy
      exact hr.clean
    · cases hd
  · obtain ⟨y, hy, hr⟩ := h.get hd
    rw [hx] at hy; cases hy
    exact hr

theorem cellOk_clean {b : Nat} {d : DV} (h : d.cellOk b = true) : d.clean.cellOk b = true := by
  cases d with
  | slice fl wd es => cases fl <;> rfl
  | _ => exact h

theorem Inv.unownCell [LowPred] (hI : Inv w g O H base) {blk o : Nat} {cs : List DV} {v : DV} (hb : H[blk]? = some cs) (hv : cs[o]? = some v) : Inv w g O (H.set blk (cs.set o v.clean)) base := by
  refine ⟨by rw [List.length_set]; exact hI.num, hI.le, hI.dom, hI.arr, ?_, ?_, hI.low, hI.lowOk⟩
  · intro b ds hds
    rw [List.getElem?_set] at hds
    split at hds
    · rename_i hbb
      subst hbb
      split at hds
      · cases hds
        obtain ⟨a1, a2, a3, cs', E, a4, a5, a6⟩ := hI.var blk cs hb
        refine ⟨a1, a2, ?_, cs', E, a4, a5.set_clean hv, ?_⟩
        · refine List.all_eq_true.2 fun d hd => ?_
          rcases List.mem_or_eq_of_mem_set hd with h | h
          · exact List.all_eq_true.1 a3 d h
          · rw [h]; exact cellOk_clean (List.all_eq_true.1 a3 v (List.mem_of_getElem? hv))
        · intro j d x hd hx ho
          rw [List.getElem?_set] at hd
          split at hd
          · split at hd
            · cases hd; rw [isOwn_clean1] at ho; cases ho
            · cases hd
          · exact a6 j d x hd hx ho
      · cases hds
    · exact hI.var b ds hds
  · intro b b' h1 h2
    rw [List.length_set] at h1 h2
    exact hI.inj b b' h1 h2

theorem rdc_rd (tm : List (Nat × DV)) (x : DX) : rdc tm x = (rd tm x).clean := by cases x <;> rfl

theorem opd_t [LowPred] {X : Operand} {b : Nat} (h : opd X = some (.t b)) : X = .tmp b := by
  cases X with
  | tmp t => cases h; rfl
  | const v =>
    simp only [opd] at h
    obtain ⟨_, _, h⟩ := omap_some h
    cases h
  | func f => cases h
  | global g => cases h

theorem opd_k_own [LowPred] {X : Operand} {v : DV} (h : opd X = some (.k v)) : isOwn v = false := by
  cases X with
  | tmp t => cases h
  | const c =>
    simp only [opd] at h
    obtain ⟨d, hv, h⟩ := omap_some h
    cases h
    unfold constDV at hv
    split at hv
    · obtain ⟨_, _, rfl⟩ := omap_some hv; rfl
    · exact (const1_ok hv 0).2
  | func f => cases h; rfl
  | global g => cases h

theorem sim_app [LowPred] {s s' : RSt} {a : Act} {o : Oper} {src : Option (Bool × Nat)} {n : Nat} {dx dy : DX} {y : Option DV} (he : EInv P o (.app src n dx dy)) (hp : Pre base s a w g O (.app src n dx dy) tmi)
    (h1 : ∀ x, src = some (true, x) → ∃ b, dx = .t b ∧ a.tmps.getD x undef = a.tmps.getD b undef)
    (h2 : ∀ ta, src = some (false, ta) → ∃ b, dx = .t b ∧ ∀ blk off, (look s.st.tm ta).clean = .ptr blk off → (∃ e ∈ s.L, e.2 = blk) → ∃ cs E fr, w.heap[g.V blk]? = some (.cells cs E fr) ∧ cs.toList[off]? = some (a.tmps.getD b undef))
    {v : DV} {st : St} (h : appDV s.st s.L src n dx (rdc s.st.tm dy) = some (v, st)) (hy : y = none) (hs' : s' = { s with st := setDst st o.dst v }) : OpSim P PR base o a w g O y s' := by
  obtain ⟨args, tys, X, Y, t, e, ie, zv, ho, hargs, htys, hu, hi, hz, hsz, hn0, hby, hzs, hX, hY⟩ := he
  subst hs'
  have hvx := hp.opr _ _ hX
  rw [hp.agree dx (by simp [dxs]), rdc_rd] at hvx
  have hvy := hp.opr _ _ hY
  rw [hp.agree dy (by simp [dxs])] at hvy
  unfold appDV at h
  split at h
  · rename_i hw
    simp only [Bool.and_eq_true] at hw
    obtain ⟨hwx, hwy⟩ := hw
    split at h
    · cases h
    · rename_i as bs hg
      unfold grows at hg
      split at hg
      · rename_i as' bs' hea heb
        split at hg
        · rename_i hc
          cases hg
          obtain ⟨hlen, hall⟩ := hc
          have hxs : VR g (a.eval X) (rd s.st.tm dx) := hvx.unclean
          split at h
          · -- nothing is appended
            rename_i hemp
            obtain ⟨rfl, rfl⟩ : (rd s.st.tm dx).clean = v ∧ s.st = st := by simpa using h
            have hbs : bs = [] := List.isEmpty_iff.1 hemp
            subst hbs
            obtain ⟨ax, capx, ex, hxc⟩ := elems_slice hxs hea
            obtain ⟨ay, capy, ey, _⟩ := elems_slice hvy heb
            have hr := app_run (P := P) (w := w) (w' := w) (z := a.eval X) ho hargs htys (ρ := a.eval) (append_none hu hi ⟨ax, _, capx, ex, hxc⟩ ⟨ay, capy, ey⟩)
            refine opSim_value hy hr (O' := O) ⟨by rw [setDst_H]; exact hp.inv, .refl _ _ _ _ _, ?_, ?_⟩
            · intro t' ht'
              rw [ht', setDst_look_self]
              exact ⟨hvx.clean, fun h => by rw [isOwn_clean] at h; cases h⟩
            · intro c' t' hc' _ _
              exact ⟨hc', rfl⟩
          · rename_i hemp
            have hbs : bs ≠ [] := fun h => hemp (by rw [h]; rfl)
            split at h
            · rename_i st' hcon
              cases h
              -- the second operand
              have hyv : ∃ fy, VR g (a.eval Y) (.slice fy ie.size bs) := by
                generalize rdc s.st.tm dy = d at hvy heb hwy
                cases d with
                | nilslice => cases heb; exact absurd rfl hbs
                | slice fl wd es =>
                  cases heb
                  have : wd = n := by simpa [widthOk] using hwy
                  subst this; subst hsz
                  exact ⟨fl, hvy⟩
                | _ => cases heb
              obtain ⟨fy, hyv⟩ := hyv
              subst hsz
              have fin : ∀ (l0 : Loc), (∃ z w' g' O', (Builtin.append_ #[t, t] o.type #[a.eval X, a.eval Y]).run P w = .ok z w' ∧ VR g' z (.slice .own ie.size (as ++ bs)) ∧ Inv w' g' O' st.H base ∧ Hist w g O base (PR ++ s.L.map (·.2)) w' g' O' ∧ OwnAt g' O' base z (dstLoc o.dst) ∧
                  (∀ k l, O k = l → l ≠ .none → l ≠ l0 → O' k = l ∧ g'.G k = g.G k)) → (∀ t', isOwn (look st.tm t') = true → l0 ≠ .slot t') →
                  OpSim P PR base o a w g O y { s with st := setDst st o.dst (.slice .own ie.size (as ++ bs)) } := by
                intro l0 ⟨z, w', g', O', a1, a2, a3, a4, a5, a6⟩ hl0
                have hr := app_run (P := P) ho hargs htys (ρ := a.eval) a1
                refine opSim_value hy hr (O' := O') ⟨by rw [setDst_H]; exact a3, a4, ?_, ?_⟩
                · intro t' ht'
                  rw [ht'] at a5
                  rw [ht', look_setDst_self]
                  exact ⟨a2.clean, fun _ => a5⟩
                · intro c' t' hc' hne' ho'
                  rw [look_setDst hne'] at ho'
                  exact a6 c' _ hc' (by simp) (fun e => hl0 t' ho' e.symm)
              unfold consume at hcon
              split at hcon
              · -- nil
                rename_i hd
                cases hcon
                rw [hd] at hxs hea
                cases hea
                have hX0 : a.eval X = .slice none 0 0 := by generalize a.eval X = xv at hxs; cases hxs; rfl
                obtain ⟨z, w', g', O', a1, a2, a3, a4, a5, a6⟩ := append_fresh (PR := PR ++ s.L.map (·.2)) (ty := o.type) (d := dstLoc o.dst) hp.inv hu hi hz hzs hn0 hby (.inl ⟨hX0, rfl⟩) hyv hbs hlen
                exact fin .none ⟨z, w', g', O', a1, a2, a3, a4, a5, fun k l hk hl _ => a6 k l hk hl⟩ (by simp)
              · -- full
                rename_i wd es hd
                cases hcon
                rw [hd] at hxs hea hwx
                cases hea
                obtain rfl : wd = ie.size := by simpa [widthOk] using hwx
                obtain ⟨z, w', g', O', a1, a2, a3, a4, a5, a6⟩ := append_fresh (PR := PR ++ s.L.map (·.2)) (ty := o.type) (d := dstLoc o.dst) hp.inv hu hi hz hzs hn0 hby (.inr hxs) hyv hbs hlen
                exact fin .none ⟨z, w', g', O', a1, a2, a3, a4, a5, fun k l hk hl _ => a6 k l hk hl⟩ (by simp)
              · -- the right lies in the slot itself
                rename_i wd es hd
                rw [hd] at hxs hea hwx
                cases hea
                obtain rfl : wd = ie.size := by simpa [widthOk] using hwx
                split at hcon
                · rename_i m
                  cases hcon
                  have hXm := opd_t hX
                  subst hXm
                  have hown := hp.own m (by simp [dxs]) (by
                    have : look s.st.tm m = .slice .own ie.size as := hd
                    rw [this]; rfl)
                  obtain ⟨z, w', g', O', a1, a2, a3, a4, a5, a6⟩ := append_own (PR := PR ++ s.L.map (·.2)) (ty := o.type) (d := dstLoc o.dst) hp.inv hu hi hz hzs hn0 hby hxs hown (by simp) (by simp) hyv hbs hlen
                  refine fin (.slot m) ⟨z, w', g', O', a1, a2, a3, a4, a5, a6⟩ ?_
                  intro t' ho' e
                  cases e
                  rw [look_unown_self] at ho'; cases ho'
                · cases hcon
              · -- shared: the right lies where the base was read
                rename_i wd es hd
                rw [hd] at hxs hea hwx
                cases hea
                obtain rfl : wd = ie.size := by simpa [widthOk] using hwx
                unfold consumeSrc at hcon
                split at hcon
                · -- another slot
                  rename_i x
                  split at hcon
                  · rename_i hox
                    cases hcon
                    obtain ⟨b, rfl, heq⟩ := h1 x rfl
                    have hXm := opd_t hX
                    subst hXm
                    have hown := hp.own x (by simp [dxs]) hox
                    rw [heq] at hown
                    obtain ⟨z, w', g', O', a1, a2, a3, a4, a5, a6⟩ := append_own (PR := PR ++ s.L.map (·.2)) (ty := o.type) (d := dstLoc o.dst) hp.inv hu hi hz hzs hn0 hby hxs hown (by simp) (by simp) hyv hbs hlen
                    refine fin (.slot x) ⟨z, w', g', O', a1, a2, a3, a4, a5, a6⟩ ?_
                    intro t' ho' e
                    cases e
                    rw [look_unown_self] at ho'; cases ho'
                  · cases hcon
                · -- a variable
                  rename_i ta
                  split at hcon
                  · rename_i blk off hta
                    split at hcon
                    · rename_i cs hblk
                      split at hcon
                      · rename_i cv hcv
                        split at hcon
                        · rename_i hcond
                          cases hcon
                          simp only [Bool.and_eq_true, List.any_eq_true] at hcond
                          obtain ⟨hoc, e1, he1, he2⟩ := hcond
                          obtain ⟨b, rfl, hcell⟩ := h2 ta rfl
                          have hXm := opd_t hX
                          subst hXm
                          obtain ⟨cs', E, fr, k1, k2⟩ := hcell blk off hta ⟨e1, he1, (Nat.eq_of_beq_eq_true he2).symm⟩
                          obtain ⟨_, _, _, cs2, E2, b4, b5, b6⟩ := hp.inv.var blk cs hblk
                          rw [k1] at b4; cases b4
                          have hown := b6 off cv _ hcv k2 hoc
                          have hI' := hp.inv.unownCell hblk hcv
                          have hXe : a.eval (.tmp b) = a.tmps.getD b undef := rfl
                          rw [hXe] at hxs
                          obtain ⟨z, w', g', O', a1, a2, a3, a4, a5, a6⟩ := append_own (PR := PR ++ s.L.map (·.2)) (ty := o.type) (d := dstLoc o.dst) hI' hu hi hz hzs hn0 hby hxs hown (by simp) (by
                            intro b' ds j dv hb' hj hdv hl
                            cases hl
                            have hlt : blk < s.st.H.length := (List.getElem?_eq_some_iff.1 hblk).1
                            rw [List.getElem?_set_self hlt] at hb'
                            cases hb'
                            have hlt2 : off < cs.length := (List.getElem?_eq_some_iff.1 hcv).1
                            rw [List.getElem?_set_self hlt2] at hj
                            cases hj
                            rw [isOwn_clean1] at hdv; cases hdv) hyv hbs hlen
                          exact fin (.cell blk off) ⟨z, w', g', O', a1, a2, a3, a4, a5, a6⟩ (by simp)
                        · cases hcon
                      · cases hcon
                    · cases hcon
                  · cases hcon
                · cases hcon
              · cases hcon
            · cases h
        · cases hg
      · cases hg
  · cases h

end Go.Zd
namespace Go.Zd

variable {P : Program} {F : Nat → Option DFn} {g : Gh} {tmi : List (Nat × DV)} {w : World} {O : Nat → Loc} {H : List (List DV)} {base : Nat} {PR : List Nat}

def OwnSub (tm tm' : List (Nat × DV)) : Prop := ∀ t, isOwn (look tm' t) = true → look tm t = look tm' t

theorem OwnSub.refl (tm : List (Nat × DV)) : OwnSub tm tm := fun _ _ => rfl

theorem ownSub_unown [LowPred] (tm : List (Nat × DV)) (x : Nat) : OwnSub tm (unown tm x) := by
  intro t h
  by_cases hx : x = t
  · subst hx; rw [look_unown_self] at h; cases h
  · rw [look_unown_ne _ hx]

theorem consume_ownSub [LowPred] {st st' : St} {L : List (Nat × Nat)} {src : Option (Bool × Nat)} {base : DX} {bv : DV} (h : consume st L src base bv = some st') : OwnSub st.tm st'.tm := by
  unfold consume at h
  split at h
  · cases h; exact .refl _
  · cases h; exact .refl _
  · split at h
    · cases h; exact ownSub_unown _ _
    · cases h
  · unfold consumeSrc at h
    split at h
    · split at h
      · cases h; exact ownSub_unown _ _
      · cases h
    · split at h
      · split at h
        · split at h
          · split at h
            · cases h; exact .refl _
            · cases h
          · cases h
        · cases h
      · cases h
    · cases h
  · cases h

theorem appDV_ownSub [LowPred] {st st' : St} {L : List (Nat × Nat)} {src : Option (Bool × Nat)} {wd : Nat} {base : DX} {sv v : DV} (h : appDV st L src wd base sv = some (v, st')) : OwnSub st.tm st'.tm := by
  unfold appDV at h
  split at h
  · split at h
    · cases h
    · split at h
      · cases h; exact .refl _
      · split at h
        · rename_i hc; cases h; exact consume_ownSub hc
        · cases h
  · cases h

theorem storeTo_ownSub [LowPred] {st st' : St} {PR : List Nat} {L : List (Nat × Nat)} {n : Nat} {x : DX} {tk : Option Nat} {d : DV} (h : storeTo st PR L n x tk d = some st') : OwnSub st.tm st'.tm := by
  unfold storeTo at h
  split at h
  · split at h
    · cases h
    · split at h
      · split at h
        · cases h; exact ownSub_unown _ _
        · cases h
      · split at h
        · cases h; exact .refl _
        · cases h
  · cases h

theorem setDst_ownSub {tm : List (Nat × DV)} {st : St} (h : OwnSub tm st.tm) {d : Option Nat} {v : DV} {t : Nat} (ht : d ≠ some t) (ho : isOwn (look (setDst st d v).tm t) = true) :
    look tm t = look (setDst st d v).tm t := by
  rw [look_setDst ht] at ho ⊢
  exact h t ho

theorem opDV_own [LowPred] {rec : Rec} {PR : List Nat} {draw : Bool} {s s' : RSt} {i : DIns} (h : opDV F rec PR draw s i = some (none, s')) {t : Nat} (ht : i.dst ≠ some t)
    (ho : isOwn (look s'.st.tm t) = true) : look s.st.tm t = look s'.st.tm t := by
  unfold opDV at h
  split at h
  · cases h; exact setDst_ownSub (ownSub_unown _ _) ht ho
  · cases h; exact setDst_ownSub (st := { s.st with H := _ }) (.refl _) ht ho
  · split at h
    · cases h; exact setDst_ownSub (st := { s.st with H := _ }) (.refl _) ht ho
    · cases h
  · split at h
    · cases h; exact setDst_ownSub (.refl _) ht ho
    · cases h
  · split at h
    · rename_i hs; cases h; exact setDst_ownSub (storeTo_ownSub hs) ht ho
    · cases h
  · split at h
    · cases h; exact setDst_ownSub (st := { s.st with H := _ }) (.refl _) ht ho
    · cases h
    · cases h
  · split at h
    · rename_i hc; cases h; exact setDst_ownSub (appDV_ownSub hc) ht ho
    · cases h
  · split at h
    · rename_i hc; cases h; exact setDst_ownSub (appDV_ownSub hc) ht ho
    · cases h
  · cases h; exact setDst_ownSub (.refl _) ht ho
  · split at h
    · cases h
    · cases h
  · split at h
    · cases h; exact setDst_ownSub (.refl _) ht ho
    · cases h

theorem stepIns_own [LowPred] {rec : Rec} {PR : List Nat} {draw : Bool} {s s' : RSt} {i : DIns} (h : stepIns F rec PR draw i s = some (none, s')) {t : Nat} (ht : i.dst ≠ some t)
    (ho : isOwn (look s'.st.tm t) = true) : look s.st.tm t = look s'.st.tm t := by
  unfold stepIns at h
  split at h
  · exact opDV_own h ht ho
  · split at h
    · rename_i b _
      cases hb : (b == _) <;> rw [hb] at h
      · cases h; exact setDst_ownSub (.refl _) ht ho
      · exact opDV_own h ht ho
    · cases h; exact setDst_ownSub (.refl _) ht ho
    · cases h

/-- where the base of an append was read -/
structure SrcR (s : RSt) (a : Act) (w : World) (g : Gh) (src : Option (Bool × Nat)) (dx : DX) : Prop where
  slot : ∀ x, src = some (true, x) → ∃ b, dx = .t b ∧ a.tmps.getD x undef = a.tmps.getD b undef
  var : ∀ ta, src = some (false, ta) → ∃ b, dx = .t b ∧ ∀ blk off, (look s.st.tm ta).clean = .ptr blk off → (∃ e ∈ s.L, e.2 = blk) →
    ∃ cs E fr, w.heap[g.V blk]? = some (.cells cs E fr) ∧ cs.toList[off]? = some (a.tmps.getD b undef)

def SrcOkR (s : RSt) (a : Act) (w : World) (g : Gh) : DOp → Prop
  | .app src _ dx _ => SrcR s a w g src dx
  | _ => True

theorem op_sim [LowPred] {rec : Rec} (hcs : CallSim P F rec base) {s s' : RSt} {a : Act} {o : Oper} {i : DIns} {ops : List Oper} {draw : Bool} {y : Option DV} (hc : compOp P ops i.ix o = some i.op) (hd : i.dst = o.dst)
    (hE : isE i.op = true) (hsim : simple i.op = true) (hp : Pre base s a w g O i.op tmi) (hsrc : SrcOkR s a w g i.op)
    (h : opDV F rec PR draw s i = some (y, s')) : OpSim P PR base o a w g O y s' := by
  have he := einv hc
  unfold opDV at h
  rw [hd] at h
  split at h
  · rename_i x hop; rw [hop] at he hp; cases h
    exact sim_take he hp ⟨rfl, rfl⟩
  · rename_i z hop; rw [hop] at he hp; cases h
    exact sim_alloc' he hp ⟨rfl, rfl⟩
  · rename_i x hop; rw [hop] at he hp
    split at h
    · rename_i hall; cases h
      exact sim_box' he hp hall ⟨rfl, rfl⟩
    · cases h
  · rename_i hop; rw [hop] at hE; cases hE
  · rename_i n da dx tk root hop; rw [hop] at he hp
    split at h
    · rename_i st hst; cases h
      exact sim_store he hp ⟨st, hst, rfl, rfl⟩
    · cases h
  · rename_i f args hop; rw [hop] at he hp
    split at h
    · rename_i v H hcall; cases h
      exact sim_call hcs he hp hcall (by intro v' e; cases e; exact ⟨rfl, rfl⟩) (by intro v' e; cases e)
    · rename_i v H hcall; cases h
      exact sim_call hcs he hp hcall (by intro v' e; cases e) (by intro v' e; cases e; exact ⟨rfl, rfl⟩)
    · cases h
  · rename_i src wd dx dy hop; rw [hop] at he hp hsrc
    split at h
    · rename_i v st happ; cases h
      exact sim_app he hp hsrc.slot hsrc.var happ rfl rfl
    · cases h
  · rename_i hop; rw [hop] at hsim; cases hsim
  · rename_i hop; rw [hop] at hsim; cases hsim
  · rename_i x hop; rw [hop] at he hp
    split at h
    · rename_i t v hx; cases h
      exact sim_panic he hp ⟨t, v, hx, rfl, rfl⟩
    · cases h
  · exfalso
    rename_i n1 n2 n3 n4 n5 n6 n7 n8 n9 n10
    revert hE
    cases hop : i.op <;> simp [isE]
    all_goals first
      | exact n1 _ hop
      | exact n2 _ hop
      | exact n3 _ hop
      | exact n5 _ _ _ _ _ hop
      | exact n6 _ _ hop
      | exact n7 _ _ _ _ hop
      | exact n8 _ _ _ _ hop
      | exact n10 _ hop

end Go.Zd
