/- Code, functions, guarded functions. -/
import Derived.Test.YthcoldfgpigdhaaGreatDoorZH
import Derived.LoopN
import Derived.Recover
namespace Go.Zd

variable {P : Program} {F : Nat → Option DFn} {rec : Rec} {base : Nat}

theorem Post.from [LowPred] {E : Env} {PR : List Nat} {w0 : World} {g0 : Gh} {O0 : Nat → Loc} {w1 : World} {g1 : Gh} {O1 : Nat → Loc} {ex : Ex} {st : St} {e : Exit} {a : Act} {w : World}
    (hh : Hist w0 g0 O0 base PR w1 g1 O1) (h : Post base E PR w1 g1 O1 ex st e a w) : Post base E PR w0 g0 O0 ex st e a w := by
  obtain ⟨h1, h0, g, O, h2, h3⟩ := h
  exact ⟨h1, h0, g, O, hh.trans h2, h3⟩

/-- code that is not normal in the end -/
theorem Post.then [LowPred] {E : Env} {PR : List Nat} {w0 : World} {g0 : Gh} {O0 : Nat → Loc} {ex : Ex} {st : St} {e : Exit} {a : Act} {w : World} {K : Act → World → Prop} {Q : Exit → Act → World → Prop}
    (h : Post base E PR w0 g0 O0 ex st e a w) (hne : ex ≠ .normal) (hQ : Q e a w) : Exit.then K Q e a w := by
  obtain ⟨_, _, g, O, _, h3⟩ := h
  cases ex with
  | normal => exact absurd rfl hne
  | exit id => obtain ⟨rfl, _⟩ := h3; exact hQ
  | ret => obtain ⟨rfl, _⟩ := h3; exact hQ
  | panic v => obtain ⟨y, rfl, _⟩ := h3; exact hQ

theorem SR.hist [LowPred] {E : Env} {PR : List Nat} {w0 : World} {g0 : Gh} {O0 : Nat → Loc} {st : St} {e : Exit} {a : Act} {w : World} (h : Post base E PR w0 g0 O0 .normal st e a w) :
    e = .normal ∧ ∃ g O, Hist w0 g0 O0 base PR w g O ∧ SR base E a w g O st := by
  obtain ⟨_, _, g, O, h2, h3, h4⟩ := h
  exact ⟨h3, g, O, h2, h4⟩

theorem sr_eval [LowPred] {E : Env} {a : Act} {w : World} {g : Gh} {O : Nat → Loc} {st : St} (h : SR base E a w g O st) {x : Operand} {d : DX} (hd : opd x = some d) : VR g (a.eval x) (rdc st.tm d) :=
  Slots.opr (tm := st.tm) h.slots x d hd

theorem code_sim [LowPred] (hm : P.follows .mixedOrders = true) (hrk : RecKeeps rec) (hcs : CallSim P F rec base) {ann : Ann} {E : Env} {K : Nat}
    (hloop : ∀ c d, compCode P ann c = some d → codeOk E.n d = true → codeW E.W d = true → ∀ PR st ex st', rec PR (.loop d) st = some (ex, st') → ∀ w0 g0 O0 a w g O, Hist w0 g0 O0 base PR w g O → SR base E a w g O st →
      Code.rounds P c (Post base E PR w0 g0 O0 ex st') K a w) :
    ∀ (c : Code) (d : DCode), compCode P ann c = some d → codeOk E.n d = true → codeW E.W d = true → ∀ PR st ex st', execB F rec PR d st = some (ex, st') → ∀ w0 g0 O0 a w g O, Hist w0 g0 O0 base PR w g O → SR base E a w g O st →
      c.wp P (Post base E PR w0 g0 O0 ex st') a w
  | .skip, d, hc, _, _, PR, st, ex, st', hx, w0, g0, O0, a, w, g, O, hh, hs => by
    cases hc; cases hx
    exact wp_skip ⟨hs.defers, hs.frame, g, O, hh, rfl, hs⟩
  | .exit id, d, hc, _, _, PR, st, ex, st', hx, w0, g0, O0, a, w, g, O, hh, hs => by
    cases hc; cases hx
    exact wp_exit ⟨hs.defers, hs.frame, g, O, hh, rfl, hs⟩
  | .ret, d, hc, _, _, PR, st, ex, st', hx, w0, g0, O0, a, w, g, O, hh, hs => by
    cases hc; cases hx
    exact wp_ret ⟨hs.defers, hs.frame, g, O, hh, rfl, hs⟩
  | .region id ops draw, d, hc, hok, hW, PR, st, ex, st', hx, w0, g0, O0, a, w, g, O, hh, hs => by
    simp only [compCode] at hc
    exact wp_mono (region_sim hm hrk hcs hc hok hW hx hs) (fun e a w h => h.from hh)
  | .seq x y, d, hc, hok, hW, PR, st, ex, st', hx, w0, g0, O0, a, w, g, O, hh, hs => by
    simp only [compCode] at hc
    split at hc
    · rename_i dx dy h1 h2
      cases hc
      simp only [codeOk, Bool.and_eq_true] at hok
      simp only [codeW, Bool.and_eq_true] at hW
      unfold execB at hx
      split at hx
      · rename_i st1 hx1
        refine wp_seq (wp_mono (code_sim hm hrk hcs hloop x dx h1 hok.1 hW.1 PR st _ st1 hx1 w0 g0 O0 a w g O hh hs) ?_)
        intro e a1 w1 h
        obtain ⟨rfl, g1, O1, hh1, hs1⟩ := SR.hist h
        exact code_sim hm hrk hcs hloop y dy h2 hok.2 hW.2 PR st1 ex st' hx w0 g0 O0 a1 w1 g1 O1 hh1 hs1
      · rename_i hne
        have hne' : ex ≠ .normal := by rintro rfl; exact hne _ hx
        exact wp_seq (wp_mono (code_sim hm hrk hcs hloop x dx h1 hok.1 hW.1 PR st ex st' hx w0 g0 O0 a w g O hh hs) (fun e a1 w1 h => h.then hne' h))
    · cases hc
  | .cond c x y, d, hc, hok, hW, PR, st, ex, st', hx, w0, g0, O0, a, w, g, O, hh, hs => by
    simp only [compCode] at hc
    split at hc
    · rename_i dc dx dy h0 h1 h2
      cases hc
      simp only [codeOk, Bool.and_eq_true] at hok
      simp only [codeW, Bool.and_eq_true] at hW
      unfold execB at hx
      have hv := sr_eval hs h0
      split at hx
      · rename_i hb
        rw [hb] at hv
        exact wp_cond_true (vr_bool hv) (code_sim hm hrk hcs hloop x dx h1 hok.1 hW.1 PR st ex st' hx w0 g0 O0 a w g O hh hs)
      · rename_i hb
        rw [hb] at hv
        exact wp_cond_false (vr_bool hv) (code_sim hm hrk hcs hloop y dy h2 hok.2 hW.2 PR st ex st' hx w0 g0 O0 a w g O hh hs)
      · cases hx
    · cases hc
  | .block id c, d, hc, hok, hW, PR, st, ex, st', hx, w0, g0, O0, a, w, g, O, hh, hs => by
    simp only [compCode] at hc
    obtain ⟨dc, h1, rfl⟩ := omap_some hc
    simp only [codeOk] at hok
    simp only [codeW] at hW
    unfold execB at hx
    split at hx
    · rename_i i st1 hx1
      refine wp_block (wp_mono (code_sim hm hrk hcs hloop c dc h1 hok hW PR st _ st1 hx1 w0 g0 O0 a w g O hh hs) ?_)
      intro e a1 w1 ⟨hd, hf, g1, O1, hh1, he, hs1⟩
      subst he
      cases hb : Nat.beq i id with
      | true =>
        rw [hb] at hx; cases hx
        have := Nat.eq_of_beq_eq_true hb
        subst this
        simp only [Exit.inBlock, if_true]
        exact ⟨hd, hf, g1, O1, hh1, rfl, hs1⟩
      | false =>
        rw [hb] at hx; cases hx
        have : i ≠ id := by rintro rfl; rw [Nat.beq_refl] at hb; cases hb
        simp only [Exit.inBlock, this, if_false]
        exact ⟨hd, hf, g1, O1, hh1, rfl, hs1⟩
    · rename_i hne
      refine wp_block (wp_mono (code_sim hm hrk hcs hloop c dc h1 hok hW PR st ex st' hx w0 g0 O0 a w g O hh hs) ?_)
      intro e a1 w1 h
      have h0 := h
      obtain ⟨hd, _, g1, O1, hh1, he⟩ := h
      cases ex with
      | normal => obtain ⟨rfl, _⟩ := he; exact h0
      | exit i => exact absurd hx (hne i st')
      | ret => obtain ⟨rfl, _⟩ := he; exact h0
      | panic v => obtain ⟨y, rfl, _⟩ := he; exact h0
  | .loop c, d, hc, hok, hW, PR, st, ex, st', hx, w0, g0, O0, a, w, g, O, hh, hs => by
    simp only [compCode] at hc
    obtain ⟨dc, h1, rfl⟩ := omap_some hc
    simp only [codeOk] at hok
    simp only [codeW] at hW
    unfold execB at hx
    split at hx
    · rename_i st1 hx1
      refine wp_loop_rounds (K + 1) ?_
      rw [rounds_succ]
      refine wp_mono (code_sim hm hrk hcs hloop c dc h1 hok hW PR st _ st1 hx1 w0 g0 O0 a w g O hh hs) ?_
      intro e a1 w1 h
      obtain ⟨rfl, g1, O1, hh1, hs1⟩ := SR.hist h
      exact hloop c dc h1 hok hW PR st1 ex st' hx w0 g0 O0 a1 w1 g1 O1 hh1 hs1
    · rename_i hne
      have hne' : ex ≠ .normal := by rintro rfl; exact hne _ hx
      refine wp_loop_rounds 1 (wp_mono (code_sim hm hrk hcs hloop c dc h1 hok hW PR st ex st' hx w0 g0 O0 a w g O hh hs) (fun e a1 w1 h => h.then hne' h))
  | .label _, _, hc, _, _, _, _, _, _, _, _, _, _, _, _, _, _, _, _ => by cases hc
  | .goto _, _, hc, _, _, _, _, _, _, _, _, _, _, _, _, _, _, _, _ => by cases hc

end Go.Zd
namespace Go.Zd

variable {P : Program} {F : Nat → Option DFn} {rec : Rec} {base : Nat}

mutual
theorem ptrsLt_mono {m n : Nat} (h : m ≤ n) : ∀ {d : DV}, d.ptrsLt m = true → d.ptrsLt n = true
  | .ptr b o, hd => by
    simp only [DV.ptrsLt] at hd ⊢
    exact Nat.ble_eq_true_of_le (Nat.le_trans (Nat.le_of_ble_eq_true hd) h)
  | .func f a b, hd => by
    simp only [DV.ptrsLt, Bool.and_eq_true] at hd ⊢
    exact ⟨ptrsLtL_mono h hd.1, ptrsLtL_mono h hd.2⟩
  | .iface t v, hd => by simp only [DV.ptrsLt] at hd ⊢; exact ptrsLt_mono h hd
  | .agg cs, hd => by simp only [DV.ptrsLt] at hd ⊢; exact ptrsLtL_mono h hd
  | .tuple cs, hd => by simp only [DV.ptrsLt] at hd ⊢; exact ptrsLtL_mono h hd
  | .undef, _ | .bool _, _ | .int _ _, _ | .str _, _ | .nilptr, _ | .nilfunc, _ | .niliface, _ | .nilslice, _ | .snap _ _, _ | .slice _ _ _, _ => rfl
theorem ptrsLtL_mono {m n : Nat} (h : m ≤ n) : ∀ {d : List DV}, DV.ptrsLtL m d = true → DV.ptrsLtL n d = true
  | [], _ => rfl
  | v :: r, hd => by
    simp only [DV.ptrsLtL, Bool.and_eq_true] at hd ⊢
    exact ⟨ptrsLt_mono h hd.1, ptrsLtL_mono h hd.2⟩
end

/-- without the variables from n on -/
def Gh.trunc (g : Gh) (n : Nat) : Gh := { g with n := n }

mutual
theorem VR.trunc {g : Gh} {n : Nat} : ∀ {x : Value} {d : DV}, VR g x d → d.ptrsLt n = true → VR (g.trunc n) x d
  | _, _, .undef x, _ => .undef x
  | _, _, .bool b, _ => .bool b
  | _, _, .int k m, _ => .int k m
  | _, _, .str s, _ => .str s
  | _, _, .nilptr, _ => .nilptr
  | _, _, .nilfunc, _ => .nilfunc
  | _, _, .niliface, _ => .niliface
  | _, _, .nilslice, _ => .nilslice
  | _, _, .ptr b off h, hd => .ptr (g := g.trunc n) b off (by simp only [DV.ptrsLt] at hd; exact Nat.le_of_ble_eq_true hd)
  | _, _, .snap c i off ga v h hi ho, _ => .snap (g := g.trunc n) c i off ga v h hi ho
  | _, _, .slice c i len cap ga fl h hi hc hz hf, _ => .slice (g := g.trunc n) c i len cap ga fl h hi hc hz hf
  | _, _, .func f a b da db ha hb, hd => by
    simp only [DV.ptrsLt, Bool.and_eq_true] at hd
    exact .func f a b da db (VRL.trunc ha hd.1) (VRL.trunc hb hd.2)
  | _, _, .iface t x d h, hd => .iface t x d (VR.trunc h (by simpa only [DV.ptrsLt] using hd))
  | _, _, .agg cs ds h, hd => .agg cs ds (VRL.trunc h (by simpa only [DV.ptrsLt] using hd))
  | _, _, .tuple cs ds h, hd => .tuple cs ds (VRL.trunc h (by simpa only [DV.ptrsLt] using hd))
theorem VRL.trunc {g : Gh} {n : Nat} : ∀ {x : List Value} {d : List DV}, VRL g x d → DV.ptrsLtL n d = true → VRL (g.trunc n) x d
  | _, _, .nil, _ => .nil
  | _, _, .cons h hs, hd => by
    simp only [DV.ptrsLtL, Bool.and_eq_true] at hd
    exact .cons (VR.trunc h hd.1) (VRL.trunc hs hd.2)
end

theorem ptrsLtL_all {n : Nat} : ∀ {ds : List DV}, (∀ d ∈ ds, d.ptrsLt n = true) → DV.ptrsLtL n ds = true
  | [], _ => rfl
  | d :: ds, h => by
    simp only [DV.ptrsLtL, Bool.and_eq_true]
    exact ⟨h d (List.mem_cons_self ..), ptrsLtL_all fun d hd => h d (List.mem_cons_of_mem _ hd)⟩

theorem plain_ptrs {d : DV} (h : d.plain1 = true) (n : Nat) : d.ptrsLt n = true := by
  cases d <;> first | rfl | (simp [DV.plain1] at h)

theorem cellOk_ptrs [LowPred] {d : DV} {b n : Nat} (h : d.cellOk b = true) (hb : b < n) : d.ptrsLt n = true := by
  cases d <;> simp only [DV.cellOk] at h <;> first
    | (cases h; done)
    | exact ptrsLt_mono (Nat.zero_le _) h
    | exact ptrsLt_mono hb h

theorem flat_ptrs [LowPred] {es : List DV} {wd : Nat} (h : ∀ v ∈ es, v.elemOk wd = true) (n : Nat) : DV.ptrsLtL n (flat es) = true := by
  refine ptrsLtL_all fun d hd => ?_
  obtain ⟨v, hv, hd⟩ := List.mem_flatMap.1 hd
  have := h v hv
  simp only [DV.elemOk, Bool.and_eq_true] at this
  exact plain_ptrs (List.all_eq_true.1 this.2 d hd) n

theorem Inv.trunc [LowPred] {w : World} {g : Gh} {O : Nat → Loc} {H : List (List DV)} (hI : Inv w g O H base) {n : Nat} (hn : n ≤ H.length) : Inv w (g.trunc n) O (H.take n) base := by
  refine ⟨by simp [Gh.trunc, List.length_take, Nat.min_eq_left hn], hI.le, hI.dom, ?_, ?_, ?_, hI.low, hI.lowOk⟩
  · intro c ga hc
    obtain ⟨cs, E, fr, a1, a2, a3, a4, a5, a6, a7⟩ := hI.arr c ga hc
    exact ⟨cs, E, fr, a1, a2, a3, a4, a5, a6.trunc (flat_ptrs a5 n), a7⟩
  · intro b ds hb
    have hbn : b < n := by
      have := (List.getElem?_eq_some_iff.1 hb).1
      simp at this; omega
    rw [List.getElem?_take_of_lt hbn] at hb
    obtain ⟨a1, a2, a3, cs, E, a4, a5, a6⟩ := hI.var b ds hb
    refine ⟨a1, a2, a3, cs, E, a4, a5.trunc (ptrsLtL_all fun d hd => cellOk_ptrs (List.all_eq_true.1 a3 d hd) hbn), ?_⟩
    intro j d x hd hx ho
    exact (a6 j d x hd hx ho).mono (fun _ _ h _ => h) (fun _ h => h)
  · intro b b' h1 h2
    simp at h1 h2
    exact hI.inj b b' (by omega) (by omega)

theorem Hist.trunc {w : World} {g : Gh} {O : Nat → Loc} {PR : List Nat} {w' : World} {g' : Gh} {O' : Nat → Loc} (h : Hist w g O base PR w' g' O') {n : Nat} (hn : g.n ≤ n) : Hist w g O base PR w' (g'.trunc n) O' :=
  ⟨⟨h.ext.arr, h.ext.var, hn, h.ext.low⟩, h.rest, h.prot, h.low, h.size, h.os, h.out, h.tp, h.sorts⟩

/-- what is left at the end of a call -/
theorem end_call [LowPred] {w : World} {g : Gh} {O : Nat → Loc} {H : List (List DV)} {PR : List Nat} {w' : World} {g' : Gh} {O' : Nat → Loc} {H1 H' : List (List DV)} {keep : Bool} {v : DV} {mk : DV → Out} {out : Out} {x : Value}
    (hI : Inv w g O H base) (hI' : Inv w' g' O' H1 base) (hh : Hist w g O base PR w' g' O') (hv : VR g' x v) (ho : outOf keep H.length H1 v mk = some (out, H')) :
    out = mk v ∧ ∃ g2, Inv w' g2 O' H' base ∧ Hist w g O base PR w' g2 O' ∧ VR g2 x v ∧ (∀ l, OwnAt g' O' base x l → OwnAt g2 O' base x l) := by
  unfold outOf at ho
  split at ho
  · rename_i hc
    cases ho
    refine ⟨rfl, ?_⟩
    unfold Zd.trunc
    cases keep with
    | true =>
      simp only [if_true]
      exact ⟨g', hI', hh, hv, fun _ h => h⟩
    | false =>
      simp only [Bool.false_or] at hc
      have hlen : H.length ≤ H1.length := by
        rw [← hI.num, ← hI'.num]; exact hh.ext.num
      simp only [Bool.false_eq_true, if_false]
      refine ⟨g'.trunc H.length, hI'.trunc hlen, hh.trunc (Nat.le_of_eq hI.num), hv.trunc hc, ?_⟩
      intro l h
      exact h.mono (fun _ _ h _ => h) (fun _ h => h)
  · cases ho

/-! ## results -/

def resOne (tmps : Array Value) : ResultVar → Sem Value
  | .tmp t => pure (tmps.getD t undef)
  | .cell a t => do loadVar t (← asAddr (tmps.getD a undef))

theorem results_eq (fn : Func) (tmps : Array Value) : results fn tmps = (do let vs ← fn.results.mapM (resOne tmps); pure (if h : vs.size = 1 then vs[0] else .tuple vs)) := rfl

structure OneR (g : Gh) (O : Nat → Loc) (base : Nat) (x : Value) (v : DV) : Prop where
  vr : VR g x v
  own : isOwn v = true → ∃ t, OwnAt g O base x (.slot t)

theorem resOne_run [LowPred] {E : Env} {a : Act} {w : World} {g : Gh} {O : Nat → Loc} {st : St} (hs : SR base E a w g O st) {r : ResultVar} {ds : List DRes} {d : DRes} (hc : compRes P [r] = some (d :: ds)) {v : DV} (hv : resVal st d = some v) :
    ∃ x, (resOne a.tmps r).run P w = .ok x w ∧ OneR g O base x v := by
  cases r with
  | tmp t =>
    simp only [compRes, Option.map_some, Option.some.injEq, List.cons.injEq] at hc
    obtain ⟨rfl, _⟩ := hc
    cases hv
    exact ⟨_, rfl, VR.unclean (hs.slots t), fun ho => ⟨t, hs.own t ho⟩⟩
  | cell adr t =>
    simp only [compRes] at hc
    split at hc
    · rename_i sz ag l h1 h2 h3
      split at hc
      · rename_i hag
        simp only [Option.some.injEq, List.cons.injEq] at hc
        obtain ⟨rfl, _⟩ := hc
        simp only [resVal] at hv
        have hx : VR g (a.tmps.getD adr undef) (look st.tm adr) := VR.unclean (hs.slots adr)
        obtain ⟨y, hr, hy⟩ := loadDV_VR (P := P) hs.inv hx hv h2 h1 hag
        refine ⟨y, ?_, hy, fun ho => by rw [loadDV_own hv] at ho; cases ho⟩
        have hp : ∃ ad, a.tmps.getD adr undef = .pointer (some ad) := by
          generalize a.tmps.getD adr undef = xv at hx
          generalize look st.tm adr = dv at hx hv
          cases hx <;> first | exact ⟨_, rfl⟩ | (simp [loadDV] at hv)
        obtain ⟨ad, had⟩ := hp
        rw [had] at hr
        simp only [resOne, had]
        simpa [Instr.loadAt, Instr.sureAddr, asAddr] using hr
      · cases hc
    · cases hc

theorem compRes_cons [LowPred] {r : ResultVar} {rs : List ResultVar} {ds : List DRes} (h : compRes P (r :: rs) = some ds) : ∃ d ds', ds = d :: ds' ∧ compRes P [r] = some [d] ∧ compRes P rs = some ds' := by
  cases r with
  | tmp t =>
    simp only [compRes] at h
    obtain ⟨l, hl, rfl⟩ := omap_some h
    exact ⟨_, l, rfl, rfl, hl⟩
  | cell a t =>
    simp only [compRes] at h
    split at h
    · rename_i n ag l h1 h2 h3
      split at h
      · rename_i hag
        cases h
        exact ⟨_, l, rfl, by simp [compRes, h1, h2, hag], h3⟩
      · cases h
    · cases h

theorem resVals_run [LowPred] {E : Env} {a : Act} {w : World} {g : Gh} {O : Nat → Loc} {st : St} (hs : SR base E a w g O st) : ∀ {rs : List ResultVar} {ds : List DRes} {vs : List DV}, compRes P rs = some ds → resVals st ds = some vs →
    ∃ xs, (rs.mapM (resOne a.tmps)).run P w = .ok xs w ∧ xs.length = vs.length ∧ ∀ (i : Nat) x v, xs[i]? = some x → vs[i]? = some v → OneR g O base x v
  | [], ds, vs, hc, hv => by
    cases hc; cases hv
    exact ⟨[], rfl, rfl, fun i x v h => by simp at h⟩
  | r :: rs, ds, vs, hc, hv => by
    obtain ⟨d, ds', rfl, h1, h2⟩ := compRes_cons hc
    simp only [resVals] at hv
    split at hv
    · rename_i v vs' hv1 hv2
      cases hv
      obtain ⟨x, hx, hox⟩ := resOne_run hs h1 hv1
      obtain ⟨xs, hxs, hlen, hall⟩ := resVals_run hs h2 hv2
      refine ⟨x :: xs, ?_, by simp [hlen], ?_⟩
      · simp [List.mapM_cons, hx, hxs]
      · intro i y u hy hu
        cases i with
        | zero => simp at hy hu; subst hy; subst hu; exact hox
        | succ i => simp at hy hu; exact hall i y u hy hu
    · cases hv

theorem res_run [LowPred] {E : Env} {a : Act} {w : World} {g : Gh} {O : Nat → Loc} {st : St} (hs : SR base E a w g O st) {fn : Func} {ds : List DRes} {v : DV} (hc : compRes P fn.results.toList = some ds) (hv : resOf st ds = some v) :
    ∃ x, (results fn a.tmps).run P w = .ok x w ∧ OneR g O base x v := by
  unfold resOf at hv
  have key : ∀ vs, resVals st ds = some vs → ∃ xs : List Value, (fn.results.mapM (resOne a.tmps)).run P w = .ok xs.toArray w ∧ xs.length = vs.length ∧ ∀ (i : Nat) x v, xs[i]? = some x → vs[i]? = some v → OneR g O base x v := by
    intro vs hvs
    obtain ⟨xs, h1, h2, h3⟩ := resVals_run (P := P) hs hc hvs
    refine ⟨xs, ?_, h2, h3⟩
    rw [Array.mapM_eq_mapM_toList]
    simp [h1]
  rw [results_eq]
  split at hv
  · rename_i v' hvs
    cases hv
    obtain ⟨xs, h1, h2, h3⟩ := key _ hvs
    match xs, h2 with
    | [x], _ =>
      refine ⟨x, ?_, h3 0 x v rfl rfl⟩
      simp [h1]
  · rename_i vs hne hvs
    cases hv
    obtain ⟨xs, h1, h2, h3⟩ := key _ hvs
    refine ⟨.tuple xs.toArray, ?_, ?_, fun h => by cases h⟩
    · have : xs.length ≠ 1 := by
        intro h
        rw [h2] at h
        match vs, h with
        | [v], _ => exact hne v rfl
      simp [h1, this]
    · refine .tuple _ _ (VRL.map_clean (VRL.of_get (by simpa using h2) ?_))
      intro i x d hx hd
      exact (h3 i x d (by simpa using hx) hd).vr
  · cases hv

end Go.Zd
namespace Go.Zd

variable {P : Program} {F : Nat → Option DFn} {rec : Rec} {base : Nat}

theorem look_enter_at : ∀ (args : List DV) (k t : Nat), look ((args.zipIdx k).map fun (v, i) => (i, v.clean1)) (k + t) = match args[t]? with | some v => v.clean | none => .undef
  | [], k, t => by simp [look]
  | v :: r, k, t => by
    simp only [List.zipIdx_cons, List.map_cons]
    cases t with
    | zero =>
      have := look_set_self ((r.zipIdx (k + 1)).map fun (v, i) => (i, v.clean1)) k v.clean1
      simpa using this
    | succ t =>
      rw [look_set_ne _ _ (by omega)]
      have := look_enter_at r (k + 1) t
      rw [show k + 1 + t = k + (t + 1) by omega] at this
      simpa using this

theorem look_enter [LowPred] (args : List DV) (t : Nat) : look (enterTm args) t = match args[t]? with | some v => v.clean | none => .undef := by
  have := look_enter_at args 0 t
  simpa [enterTm] using this

theorem sr_enter [LowPred] {w : World} {g : Gh} {O : Nat → Loc} {H : List (List DV)} (hI : Inv w g O H base) {vals : List Value} {args : List DV} (hv : VRL g vals args) (n : Nat) :
    SR base ⟨n, [], fun _ => true, fun _ => undef⟩ { tmps := vals.toArray ++ Array.replicate (n - vals.toArray.size) undef, defers := [] } w g O ⟨enterTm args, H⟩ := by
  refine ⟨by simp; omega, rfl, (fun _ h => by cases h), hI, ?_, ?_⟩
  · intro t
    simp only [look_enter]
    cases ha : args[t]? with
    | none => exact .undef _
    | some v =>
      obtain ⟨x, hx, hr⟩ := hv.get ha
      have hlt := (List.getElem?_eq_some_iff.1 hx).1
      have : (vals.toArray ++ Array.replicate (n - vals.toArray.size) undef).getD t undef = x := by
        rw [Array.getD_eq_getD_getElem?, Array.getElem?_append_left (by simpa using hlt)]
        simp [hx]
      simp only [this]
      exact hr.clean.clean
  · intro t ht
    simp only [look_enter] at ht
    split at ht
    · rw [isOwn_clean] at ht; cases ht
    · cases ht

def BodySim [LowPred] (P : Program) (rec : Rec) (base : Nat) : Prop :=
  ∀ ann E c d, compCode P ann c = some d → codeOk E.n d = true → codeW E.W d = true → ∀ PR st ex st', rec PR d st = some (ex, st') → ∀ w0 g0 O0 a w g O, Hist w0 g0 O0 base PR w g O → SR base E a w g O st →
    c.wp P (Post base E PR w0 g0 O0 ex st') a w

def LoopSim [LowPred] (P : Program) (rec : Rec) (base K : Nat) : Prop :=
  ∀ ann E c d, compCode P ann c = some d → codeOk E.n d = true → codeW E.W d = true → ∀ PR st ex st', rec PR (.loop d) st = some (ex, st') → ∀ w0 g0 O0 a w g O, Hist w0 g0 O0 base PR w g O → SR base E a w g O st →
    Code.rounds P c (Post base E PR w0 g0 O0 ex st') K a w

/-- a guarded function of the program does what the abstract one does -/
def RunSim [LowPred] (P : Program) (base f : Nat) (pre : List DCode) (post hnd : DCode) (res : List DRes) (c0 c1 c2 c3 failTy : Nat) : Prop :=
  Enters P f ∧ ∀ rec, BodySim P rec base → ∀ PR args H out H', runD rec PR pre post hnd res c0 c1 c2 c3 failTy args H = some (out, H') →
    ∀ w g O vals, Inv w g O H base → (∀ c t, O c ≠ .slot t) → (∀ c, O c ≠ .res) → VRL g vals args → Calls P f vals.toArray w (RetR base PR w g O out H')

/-- the table of functions, and the program -/
structure Tab [LowPred] (P : Program) (F : Nat → Option DFn) (base : Nat) : Prop where
  mixed : P.follows .mixedOrders = true
  code : ∀ f body res keep, F f = some (.code body res keep) → ∃ fn ann, P.funcs[f]? = some fn ∧ compFn P ann keep fn = some (.code body res keep) ∧ (fn.name == "runtime.NumGoroutine") = false
  prim : ∀ f p, F f = some (.prim p) → Enters P f ∧ ∀ args v, primDV p args = some v → ∀ PR w g O H vals, Inv w g O H base → VRL g vals args → Calls P f vals.toArray w (RetR base PR w g O (.ret v) H)
  spec : ∀ f s, F f = some (.spec s) → Enters P f ∧ ∀ PR args H out H', s.run PR args H = some (out, H') → ∀ w g O vals, Inv w g O H base → (∀ c t, O c ≠ .slot t) → (∀ c, O c ≠ .res) → VRL g vals args → Calls P f vals.toArray w (RetR base PR w g O out H')
  run : ∀ f pre post hnd res c0 c1 c2 c3 failTy, F f = some (.runp pre post hnd res c0 c1 c2 c3 failTy) → RunSim P base f pre post hnd res c0 c1 c2 c3 failTy

theorem codeW_all : ∀ d : DCode, codeW (fun _ => true) d = true
  | .skip | .exit _ | .ret => rfl
  | .seq a b => by simp only [codeW, codeW_all a, codeW_all b, Bool.and_self]
  | .cond _ a b => by simp only [codeW, codeW_all a, codeW_all b, Bool.and_self]
  | .block _ a => codeW_all a
  | .loop a => codeW_all a
  | .region ins _ _ _ => by
    simp only [codeW]
    refine List.all_eq_true.2 fun i _ => ?_
    split <;> rfl

theorem compFn_spec {ann : Ann} {keep : Bool} {fn : Func} {body : DCode} {res : List DRes} {k : Bool} (h : compFn P ann keep fn = some (.code body res k)) :
    ∃ c, fn.body = some c ∧ compCode P ann c = some body ∧ compRes P fn.results.toList = some res ∧ codeOk fn.ntmps body = true ∧ k = keep := by
  unfold compFn at h
  split at h
  · rename_i c hb
    split at h
    · rename_i d rs h1 h2
      split at h
      · rename_i h3
        simp only [Option.some.injEq, DFn.code.injEq] at h
        obtain ⟨rfl, rfl, rfl⟩ := h
        simp only [Bool.and_eq_true] at h3
        exact ⟨c, hb, h1, h2, h3.1, rfl⟩
      · cases h
    · cases h
  · cases h

theorem callF_sim [LowPred] (tab : Tab P F base) (hb : BodySim P rec base) : CallSim P F rec base := by
  intro PR f args H out H' h
  unfold callF at h
  split at h
  · rename_i body res keep hF
    obtain ⟨fn, ann, hf, hcf, hname⟩ := tab.code f body res keep hF
    obtain ⟨c, hbody, hc, hres, hok, _⟩ := compFn_spec hcf
    refine ⟨⟨fn, hf, by rw [hbody]; rfl, hname⟩, ?_⟩
    intro w g O vals hI _ _ hv
    have hs := sr_enter hI hv fn.ntmps
    -- what a normal end gives
    have hret : ∀ ex st, rec PR body ⟨enterTm args, H⟩ = some (ex, st) → (ex = .normal ∨ ex = .ret) → (match resOf st res with | some v => outOf keep H.length st.H v .ret | none => none) = some (out, H') →
        Calls P f vals.toArray w (RetR base PR w g O out H') := by
      intro ex st hx hex ho
      split at ho
      · rename_i v hv'
        refine calls_of_wp hf hbody (wp_mono (hb ann ⟨fn.ntmps, [], fun _ => true, fun _ => undef⟩ c body hc hok (codeW_all _) PR _ ex st hx w g O _ w g O (.refl _ _ _ _ _) hs) ?_)
        intro e a1 w1 h1
        obtain ⟨hd, _, g1, O1, hh, h2⟩ := h1
        have h3 : (e = .normal ∨ e = .ret) ∧ SR base ⟨fn.ntmps, [], fun _ => true, fun _ => undef⟩ a1 w1 g1 O1 st := by
          rcases hex with rfl | rfl
          · exact ⟨.inl h2.1, h2.2⟩
          · exact ⟨.inr h2.1, h2.2⟩
        obtain ⟨he, hs1⟩ := h3
        obtain ⟨x, hr, hone⟩ := res_run (P := P) hs1 hres hv'
        have hR : RetR base PR w g O out H' (.returned x) w1 := by
          cases hown : isOwn v with
          | true =>
            obtain ⟨t, hat⟩ := hone.own hown
            obtain ⟨cc, _, k1, k2, k3⟩ := move_own (PR := PR) hs1.inv hat .res
            obtain ⟨rfl, g2, j1, j2, j3, j4⟩ := end_call hI k1 (hh.trans k3) hone.vr ho
            exact ⟨g2, _, j1, j2, x, rfl, j3, fun _ => j4 _ k2⟩
          | false =>
            obtain ⟨rfl, g2, j1, j2, j3, j4⟩ := end_call hI hs1.inv hh hone.vr ho
            exact ⟨g2, O1, j1, j2, x, rfl, j3, fun h => by rw [hown] at h; cases h⟩
        rcases he with rfl | rfl
        · exact ⟨hd, x, hr, hR⟩
        · exact ⟨hd, x, hr, hR⟩
      · cases ho
    split at h
    · -- a panic
      rename_i v st hx
      refine calls_of_wp hf hbody (wp_mono (hb ann ⟨fn.ntmps, [], fun _ => true, fun _ => undef⟩ c body hc hok (codeW_all _) PR _ _ st hx w g O _ w g O (.refl _ _ _ _ _) hs) ?_)
      intro e a1 w1 h1
      obtain ⟨hd, _, g1, O1, hh, y, rfl, hy, hI1⟩ := h1
      obtain ⟨rfl, g2, j1, j2, j3, _⟩ := end_call hI hI1 hh hy h
      exact ⟨hd, g2, O1, j1, j2, y, rfl, j3⟩
    · cases h
    · rename_i ex st hne1 hne2 hx
      refine hret ex st hx ?_ h
      cases ex with
      | normal => exact .inl rfl
      | ret => exact .inr rfl
      | exit id => exact (hne2 id rfl).elim
      | panic v => exact (hne1 v rfl).elim
    · cases h
  · rename_i s hF
    obtain ⟨h1, h2⟩ := tab.spec f s hF
    exact ⟨h1, h2 PR args H out H' h⟩
  · rename_i p hF
    obtain ⟨h1, h2⟩ := tab.prim f p hF
    split at h
    · rename_i v hv
      cases h
      exact ⟨h1, fun w g O vals hI _ _ hvl => h2 args v hv PR w g O _ vals hI hvl⟩
    · cases h
  · rename_i pre post hnd res c0 c1 c2 c3 failTy hF
    obtain ⟨h1, h2⟩ := tab.run f pre post hnd res c0 c1 c2 c3 failTy hF
    exact ⟨h1, h2 rec hb PR args H out H' h⟩
  · cases h

theorem loop_sim [LowPred] (hm : P.follows .mixedOrders = true) (hrk : RecKeeps rec) (hcs : CallSim P F rec base) {K : Nat} (hl : LoopSim P rec base K) : LoopSim P (execB F rec) base (K + 1) := by
  intro ann E c d hc hok hW PR st ex st' hx w0 g0 O0 a w g O hh hs
  have hbody := code_sim hm hrk hcs (fun c d h1 h2 h3 => hl ann E c d h1 h2 h3) c d hc hok hW PR st
  rw [rounds_succ]
  unfold execB at hx
  split at hx
  · rename_i st1 hx1
    refine wp_mono (hbody _ st1 hx1 w0 g0 O0 a w g O hh hs) ?_
    intro e a1 w1 h
    obtain ⟨rfl, g1, O1, hh1, hs1⟩ := SR.hist h
    exact hl ann E c d hc hok hW PR st1 ex st' hx w0 g0 O0 a1 w1 g1 O1 hh1 hs1
  · rename_i hne
    have hne' : ex ≠ .normal := by rintro rfl; exact hne _ hx
    exact wp_mono (hbody ex st' hx w0 g0 O0 a w g O hh hs) (fun e a1 w1 h => h.then hne' h)

/-- what the abstract run computes, the program does -/
theorem sound [LowPred] (tab : Tab P F base) : ∀ k, BodySim P (exec F k) base ∧ LoopSim P (exec F k) base k
  | 0 => by
    constructor
    · intro ann E c d _ _ _ PR st ex st' h
      cases h
    · intro ann E c d _ _ _ PR st ex st' h
      cases h
  | k + 1 => by
    obtain ⟨h1, h2⟩ := sound tab k
    have hrk : RecKeeps (exec F k) := exec_keeps k
    have hcs := callF_sim tab h1
    refine ⟨?_, ?_⟩
    · intro ann E c d hc hok hW PR st ex st' hx
      exact code_sim tab.mixed hrk hcs (fun c d h1 h3 h4 => h2 ann E c d h1 h3 h4) c d hc hok hW PR st ex st' hx
    · exact loop_sim tab.mixed hrk hcs h2

theorem call_sound [LowPred] (tab : Tab P F base) {k : Nat} {PR : List Nat} {f : Nat} {args : List DV} {H H' : List (List DV)} {out : Out} (h : callD F k PR f args H = some (out, H')) :
    ∀ w g O vals, Inv w g O H base → (∀ c t, O c ≠ .slot t) → (∀ c, O c ≠ .res) → VRL g vals args → Calls P f vals.toArray w (RetR base PR w g O out H') :=
  (callF_sim tab (sound tab k).1 PR f args H out H' h).2

end Go.Zd
namespace Go.Zd

variable {P : Program} {base : Nat}

def Is (ops : Array Oper) (i : Nat) (dst : Option Nat) (op : Op) : Prop := ∃ o, ops[i]? = some o ∧ o.op = op ∧ o.dst = dst ∧ o.guard = none

/-- recover, is it a failure, into a variable -/
structure HandOps (ops : Array Oper) (ifTy failTy : TypeId) : Prop where
  size : ops.size = 8
  o0 : Is ops 0 (some 7) (.call { callee := .builtin .recover, args := #[], argTypes := #[] })
  o1 : Is ops 1 (some 8) (.typeAssert (.tmp 7) ifTy failTy true)
  o2 : Is ops 2 (some 6) (.move (.tmp 8))
  o3 : Is ops 3 (some 9) (.extract (.tmp 6) 0)
  o4 : Is ops 4 (some 10) (.extract (.tmp 6) 1)
  o5 : Is ops 5 (some 3) (.alloc failTy)
  o6 : Is ops 6 none (.store failTy (.tmp 3) (.tmp 9))
  o7 : Is ops 7 (some 4) (.assign (.tmp 10))

theorem put_at [LowPred] {a : Act} {n t : Nat} {y : Value} (h : n ≠ t) : (a.put (some n) y).tmps.getD t undef = a.tmps.getD t undef := put_ne (by simpa using h)

theorem wpOpsS_value {ops : Array Oper} {Q : Exit → Act → List Frame → World → Prop} {i : Nat} {rest : List Nat} {a : Act} {cs : List Frame} {w w' : World} {o : Oper} {y : Value} (ho : ops[i]? = some o) (hg : o.guard = none)
    (hr : (execOp a.eval o).run P w = .ok (.value y) w') (h : wpOpsS P ops Q rest (a.put o.dst y) cs w') : wpOpsS P ops Q (i :: rest) a cs w := by
  simp only [wpOpsS, ho, Region.wanted, hg, if_true, hr]
  exact h

theorem wpOpsS_skip {ops : Array Oper} {Q : Exit → Act → List Frame → World → Prop} {i : Nat} {rest : List Nat} {a : Act} {cs : List Frame} {w w' : World} {o : Oper} (ho : ops[i]? = some o) (hg : o.guard = none)
    (hr : (execOp a.eval o).run P w = .ok .skip w') (h : wpOpsS P ops Q rest (a.put o.dst undef) cs w') : wpOpsS P ops Q (i :: rest) a cs w := by
  simp only [wpOpsS, ho, Region.wanted, hg, if_true, hr]
  exact h

theorem hand_ops [LowPred] {ops : Array Oper} {ifTy failTy : TypeId} (hh : HandOps ops ifTy failTy) {it : TypeInfo} {zv : Value} {u : TypeDesc} (hu : P.underlying failTy = some u) (hni : ∀ ms, u ≠ .interface ms)
    (hi : P.info? failTy = some it) (hz : it.zero = some zv) (hsz : it.size = zv.cells.size)
    {Q : Exit → Act → List Frame → World → Prop} {a : Act} {cs cs' : List Frame} {w : World} {r fv : Value} {ok : Bool}
    (hrec : (recoverD cs = some (r, cs') ∨ (recoverD cs = none ∧ r = .nilIface ∧ cs' = cs))) (hr : (ok = true ∧ r = .iface failTy fv ∧ fv.cells.size = zv.cells.size ∧ ∀ v ∈ fv.cells.toList, v.oneCell' = true) ∨ (ok = false ∧ r = .nilIface ∧ fv = zv ∧ ∀ v ∈ zv.cells.toList, v.oneCell' = true))
    (hsize : 11 ≤ a.tmps.size)
    (h : ∀ a', a'.tmps.size = a.tmps.size → a'.defers = a.defers → (∀ t, t < 3 → a'.tmps.getD t undef = a.tmps.getD t undef) → a'.tmps.getD 3 undef = .pointer (some ⟨w.heap.size, 0, none⟩) → a'.tmps.getD 4 undef = .bool ok →
      Q .normal a' cs' ((w.alloc (.cells zv.cells failTy)).setRow w.heap.size fv.cells)) :
    wpOpsS P ops Q (List.range ops.size) a cs w := by
  rw [hh.size, show List.range 8 = [0, 1, 2, 3, 4, 5, 6, 7] from rfl]
  obtain ⟨x0, a0, b0, c0, d0⟩ := hh.o0
  obtain ⟨x1, a1, b1, c1, d1⟩ := hh.o1
  obtain ⟨x2, a2, b2, c2, d2⟩ := hh.o2
  obtain ⟨x3, a3, b3, c3, d3⟩ := hh.o3
  obtain ⟨x4, a4, b4, c4, d4⟩ := hh.o4
  obtain ⟨x5, a5, b5, c5, d5⟩ := hh.o5
  obtain ⟨x6, a6, b6, c6, d6⟩ := hh.o6
  obtain ⟨x7, a7, b7, c7, d7⟩ := hh.o7
  -- recover
  have e0 : (execOp a.eval x0).run P w = .ok .recover w := by simp [execOp, b0, resolve, invoke, builtin]
  have step0 : wpOpsS P ops Q [1, 2, 3, 4, 5, 6, 7] (a.put (some 7) r) cs' w → wpOpsS P ops Q [0, 1, 2, 3, 4, 5, 6, 7] a cs w := by
    intro hn
    rw [wpOpsS]
    simp only [a0, Region.wanted, d0, if_true, e0, c0]
    rcases hrec with hrec | ⟨hrec, rfl, rfl⟩
    · rw [hrec]; exact hn
    · rw [hrec]; exact hn
  apply step0
  have s0 : (a.put (some 7) r).tmps.size = a.tmps.size := put_size _ _ _
  -- is it a failure
  have e1 : (execOp (a.put (some 7) r).eval x1).run P w = .ok (.value (.tuple #[fv, .bool ok])) w := by
    have ev : (a.put (some 7) r).eval (.tmp 7) = r := put_self (by omega)
    simp only [execOp, b1, ev]
    rcases hr with ⟨rfl, rfl, _⟩ | ⟨rfl, rfl, rfl, _⟩
    · cases u <;> simp [Instr.typeAssert, run_underlying hu]
      exact absurd rfl (hni _)
    · cases u <;> simp [Instr.typeAssert, run_underlying hu, zeroValue, typeInfo, go_sem, hi, hz]
  refine wpOpsS_value a1 d1 e1 ?_
  rw [c1]
  generalize ha1 : (a.put (some 7) r).put (some 8) (.tuple #[fv, .bool ok]) = t1
  have z1 : t1.tmps.size = a.tmps.size := by rw [← ha1, put_size, put_size]
  have v1 : t1.eval (.tmp 8) = .tuple #[fv, .bool ok] := by rw [← ha1]; exact put_self (by rw [put_size]; omega)
  have k1 : ∀ t, t < 3 → t1.tmps.getD t undef = a.tmps.getD t undef := by
    intro t ht; rw [← ha1, put_at (show 8 ≠ t by omega), put_at (show 7 ≠ t by omega)]
  have f1 : t1.defers = a.defers := by rw [← ha1, put_defers', put_defers']
  refine wpOpsS_value a2 d2 (y := .tuple #[fv, .bool ok]) (w' := w) (by simp [execOp, b2, v1]) ?_
  rw [c2]
  generalize ha2 : t1.put (some 6) (.tuple #[fv, .bool ok]) = t2
  have z2 : t2.tmps.size = a.tmps.size := by rw [← ha2, put_size, z1]
  have v2 : t2.eval (.tmp 6) = .tuple #[fv, .bool ok] := by rw [← ha2]; exact put_self (by omega)
  have k2 : ∀ t, t < 3 → t2.tmps.getD t undef = a.tmps.getD t undef := by
    intro t ht; rw [← ha2, put_at (show 6 ≠ t by omega)]; exact k1 t ht
  have f2 : t2.defers = a.defers := by rw [← ha2, put_defers', f1]
  refine wpOpsS_value a3 d3 (y := fv) (w' := w) (by simp [execOp, b3, v2, Instr.extract]) ?_
  rw [c3]
  generalize ha3 : t2.put (some 9) fv = t3
  have z3 : t3.tmps.size = a.tmps.size := by rw [← ha3, put_size, z2]
  have v3 : t3.eval (.tmp 6) = .tuple #[fv, .bool ok] := by rw [← ha3]; exact (put_ne (by simp)).trans v2
  have w3 : t3.eval (.tmp 9) = fv := by rw [← ha3]; exact put_self (by omega)
  have k3 : ∀ t, t < 3 → t3.tmps.getD t undef = a.tmps.getD t undef := by
    intro t ht; rw [← ha3, put_at (show 9 ≠ t by omega)]; exact k2 t ht
  have f3 : t3.defers = a.defers := by rw [← ha3, put_defers', f2]
  refine wpOpsS_value a4 d4 (y := .bool ok) (w' := w) (by simp [execOp, b4, v3, Instr.extract]) ?_
  rw [c4]
  generalize ha4 : t3.put (some 10) (.bool ok) = t4
  have z4 : t4.tmps.size = a.tmps.size := by rw [← ha4, put_size, z3]
  have v4 : t4.eval (.tmp 10) = .bool ok := by rw [← ha4]; exact put_self (by omega)
  have w4 : t4.eval (.tmp 9) = fv := by rw [← ha4]; exact (put_ne (by simp)).trans w3
  have k4 : ∀ t, t < 3 → t4.tmps.getD t undef = a.tmps.getD t undef := by
    intro t ht; rw [← ha4, put_at (show 10 ≠ t by omega)]; exact k3 t ht
  have f4 : t4.defers = a.defers := by rw [← ha4, put_defers', f3]
  refine wpOpsS_value a5 d5 (y := .pointer (some ⟨w.heap.size, 0, none⟩)) (w' := w.alloc (.cells zv.cells failTy)) (by simp [execOp, b5, Instr.alloc, zeroValue, typeInfo, go_sem, hi, hz, newVar, newRow]) ?_
  rw [c5]
  generalize ha5 : t4.put (some 3) (.pointer (some ⟨w.heap.size, 0, none⟩)) = t5
  have z5 : t5.tmps.size = a.tmps.size := by rw [← ha5, put_size, z4]
  have v5 : t5.eval (.tmp 3) = .pointer (some ⟨w.heap.size, 0, none⟩) := by rw [← ha5]; exact put_self (by omega)
  have w5 : t5.eval (.tmp 9) = fv := by rw [← ha5]; exact (put_ne (by simp)).trans w4
  have x5 : t5.eval (.tmp 10) = .bool ok := by rw [← ha5]; exact (put_ne (by simp)).trans v4
  have k5 : ∀ t, t < 3 → t5.tmps.getD t undef = a.tmps.getD t undef := by
    intro t ht; rw [← ha5, put_at (show 3 ≠ t by omega)]; exact k4 t ht
  have f5 : t5.defers = a.defers := by rw [← ha5, put_defers', f4]
  have hfv : fv.cells.size = zv.cells.size ∧ ∀ v ∈ fv.cells.toList, v.oneCell' = true := by
    rcases hr with ⟨_, _, h1, h2⟩ | ⟨_, _, rfl, h2⟩
    · exact ⟨h1, h2⟩
    · exact ⟨rfl, h2⟩
  have hst := store_run (P := P) (w := w.alloc (.cells zv.cells failTy)) (x := fv) (t := failTy) (n := zv.cells.size) (o := 0) (alloc_new (w := w)) (by unfold szOf; rw [hi]; simp [hsz]) hfv.1 hfv.2 (by omega)
  have hcells : (zv.cells.toList.take 0 ++ fv.cells.toList ++ zv.cells.toList.drop (0 + fv.cells.toList.length)).toArray = fv.cells := by
    have : zv.cells.toList.drop (0 + fv.cells.toList.length) = [] := List.drop_eq_nil_of_le (by simp [hfv.1])
    rw [this]; simp
  rw [hcells] at hst
  refine wpOpsS_skip a6 d6 (w' := (w.alloc (.cells zv.cells failTy)).setRow w.heap.size fv.cells) (by simp [execOp, b6, v5, w5, hst]) ?_
  rw [c6]
  refine wpOpsS_value a7 d7 (y := .bool ok) (w' := (w.alloc (.cells zv.cells failTy)).setRow w.heap.size fv.cells) (by
    have : (t5.put none undef).eval (.tmp 10) = .bool ok := x5
    simp [execOp, b7, this]) ?_
  rw [c7]
  simp only [wpOpsS]
  refine h _ (by rw [put_size]; exact z5) (by rw [put_defers']; exact f5) ?_ ?_ ?_
  · intro t ht; rw [put_at (show 4 ≠ t by omega)]; exact k5 t ht
  · rw [put_at (show 4 ≠ 3 by omega)]; exact v5
  · exact put_self (by show 4 < t5.tmps.size; omega)

end Go.Zd
namespace Go.Zd

variable {P : Program} {base : Nat}

/-- what a function hands back at its end -/
theorem sr_ret [LowPred] {E : Env} {a1 : Act} {w w1 : World} {g g1 : Gh} {O O1 : Nat → Loc} {H H' : List (List DV)} {PR : List Nat} {st : St} {fn : Func} {res : List DRes} {v : DV} {keep : Bool} {out : Out} (hI : Inv w g O H base)
    (hs : SR base E a1 w1 g1 O1 st) (hh : Hist w g O base PR w1 g1 O1) (hres : compRes P fn.results.toList = some res) (hv : resOf st res = some v) (ho : outOf keep H.length st.H v .ret = some (out, H')) :
    ∃ x, (results fn a1.tmps).run P w1 = .ok x w1 ∧ RetR base PR w g O out H' (.returned x) w1 := by
  obtain ⟨x, hr, hone⟩ := res_run (P := P) hs hres hv
  refine ⟨x, hr, ?_⟩
  cases hown : isOwn v with
  | true =>
    obtain ⟨t, hat⟩ := hone.own hown
    obtain ⟨cc, _, k1, k2, k3⟩ := move_own (PR := PR) hs.inv hat .res
    obtain ⟨rfl, g2, j1, j2, j3, j4⟩ := end_call hI k1 (hh.trans k3) hone.vr ho
    exact ⟨g2, _, j1, j2, x, rfl, j3, fun _ => j4 _ k2⟩
  | false =>
    obtain ⟨rfl, g2, j1, j2, j3, j4⟩ := end_call hI hs.inv hh hone.vr ho
    exact ⟨g2, O1, j1, j2, x, rfl, j3, fun h => by rw [hown] at h; cases h⟩

def nest : List Code → Code → Code
  | [], t => t
  | c :: r, t => .seq c (nest r t)

/-- codes, and what they are compiled to -/
inductive CompL (P : Program) (ann : Ann) (E : Env) : List Code → List DCode → Prop
  | nil : CompL P ann E [] []
  | cons {c : Code} {d : DCode} {cs : List Code} {ds : List DCode} (h : compCode P ann c = some d) (h1 : codeOk E.n d = true) (h2 : codeW E.W d = true) (hs : CompL P ann E cs ds) : CompL P ann E (c :: cs) (d :: ds)

theorem nest_wp [LowPred] {rec : Rec} (hb : BodySim P rec base) {ann : Ann} {E : Env} {PR : List Nat} {w0 : World} {g0 : Gh} {O0 : Nat → Loc} {tail : Code} {Q : Exit → Act → World → Prop} {ex : Ex} {st' : St}
    (hn : ex = .normal → ∀ a w g O, Hist w0 g0 O0 base PR w g O → SR base E a w g O st' → tail.wp P Q a w)
    (hx : ex ≠ .normal → ∀ e a w, Post base E PR w0 g0 O0 ex st' e a w → Q e a w) :
    ∀ {cs : List Code} {ds : List DCode}, CompL P ann E cs ds → ∀ {st : St}, runL rec PR ds st = some (ex, st') → ∀ a w g O, Hist w0 g0 O0 base PR w g O → SR base E a w g O st → (nest cs tail).wp P Q a w
  | _, _, .nil, st, h, a, w, g, O, hh, hs => by
    cases h
    exact hn rfl a w g O hh hs
  | _, _, .cons h1 h2 h3 hcs, st, h, a, w, g, O, hh, hs => by
    unfold runL at h
    split at h
    · rename_i st1 hr
      refine wp_seq (wp_mono (hb ann E _ _ h1 h2 h3 PR st _ st1 hr w0 g0 O0 a w g O hh hs) ?_)
      intro e a1 w1 hp
      obtain ⟨rfl, g1, O1, hh1, hs1⟩ := SR.hist hp
      exact nest_wp hb hn hx hcs h a1 w1 g1 O1 hh1 hs1
    · rename_i hne
      have hne' : ex ≠ .normal := by rintro rfl; exact hne _ h
      exact wp_seq (wp_mono (hb ann E _ _ h1 h2 h3 PR st _ st' h w0 g0 O0 a w g O hh hs) (fun e a1 w1 hp => hp.then hne' (hx hne' e a1 w1 hp)))

structure HandData where
  fn : Func
  ops : Array Oper
  id : Nat
  code : Code
  ann : Ann
  ifTy : TypeId
  it : TypeInfo
  zv : Value
  u : TypeDesc

structure HandSpec (P : Program) (h : Nat) (hnd : DCode) (failTy : TypeId) (D : HandData) : Prop where
  hf : P.funcs[h]? = some D.fn
  name : (D.fn.name == "runtime.NumGoroutine") = false
  body : D.fn.body = some (.seq (.region D.id D.ops false) D.code)
  ops : HandOps D.ops D.ifTy failTy
  code : compCode P D.ann D.code = some hnd
  codeOk : codeOk D.fn.ntmps hnd = true
  res : D.fn.results = #[]
  nt : 11 ≤ D.fn.ntmps
  u : P.underlying failTy = some D.u
  ni : ∀ ms, D.u ≠ .interface ms
  hi : P.info? failTy = some D.it
  hz : D.it.zero = some D.zv
  size : D.it.size = D.zv.cells.size
  zv : D.zv.cells.toList = [.int .i64 0, .int .i64 0]

/-- the deferred call -/
theorem hand_sim [LowPred] {rec : Rec} (hb : BodySim P rec base) {h : Nat} {hnd : DCode} {failTy : TypeId} {D : HandData} (S : HandSpec P h hnd failTy D) {PR : List Nat} {p e : Int} {ok : Bool} {u : FrameMode} {r fv : Value}
    {w : World} {g : Gh} {O : Nat → Loc} {H1 : List (List DV)} {st3 : St} {d0 d1 d2 : DV} {v0 v1 v2 : Value}
    (hx : rec PR hnd ⟨[(0, d0.clean), (1, d1.clean), (2, d2.clean), (3, .ptr H1.length 0), (4, .bool ok)], H1 ++ [[.int .i64 p, .int .i64 e]]⟩ = some (.normal, st3))
    (hI : Inv w g O H1 base) (hv0 : VR g v0 d0.clean) (hv1 : VR g v1 d1.clean) (hv2 : VR g v2 d2.clean)
    (hcase : (ok = true ∧ u = .panicking [{ v := .iface failTy fv, recovered := false }] ∧ r = .iface failTy fv ∧ VR g fv (.agg [.int .i64 p, .int .i64 e])) ∨ (ok = false ∧ u = .returning ∧ r = .nilIface ∧ fv = D.zv ∧ p = 0 ∧ e = 0))
    {R : Ending → FrameMode → World → Prop}
    (hR : ∀ u' w' g' O', settle u' = .returning → Hist w g O base PR w' g' O' → Inv w' g' O' st3.H base → R (.returned (.tuple #[])) u' w') :
    CallsD P h #[v0, v1, v2] u w R := by
  refine callsD_of_wpS S.hf S.body fun c₀ cs hu => ?_
  apply wpS_seq
  apply wpS_region
  have hfvc : fv.cells.toList = [.int .i64 p, .int .i64 e] := by
    rcases hcase with ⟨_, _, _, hv⟩ | ⟨_, _, _, rfl, rfl, rfl⟩
    · obtain ⟨xs, rfl, hl⟩ := vr_agg hv
      show xs.toList = _
      generalize xs.toList = l at hl
      cases hl with
      | cons h1 h2 => cases h1; cases h2 with
        | cons h1 h2 => cases h1; cases h2; rfl
    · exact S.zv
  have hzs : D.zv.cells.size = 2 := by have := congrArg List.length S.zv; simpa using this
  have hfs : fv.cells.size = 2 := by have := congrArg List.length hfvc; simpa using this
  have hone : ∀ v ∈ fv.cells.toList, v.oneCell' = true := by
    rw [hfvc]; intro v hv
    simp at hv; rcases hv with rfl | rfl <;> rfl
  have hzone : ∀ v ∈ D.zv.cells.toList, v.oneCell' = true := by
    rw [S.zv]; intro v hv
    simp at hv; subst hv; rfl
  -- the callers behind recover
  let u' : FrameMode := if ok then .panicking [{ v := .iface failTy fv, recovered := true }] else .returning
  have hrec : recoverD (c₀ :: cs) = some (r, { c₀ with mode := u' } :: cs) ∨ (recoverD (c₀ :: cs) = none ∧ r = .nilIface ∧ { c₀ with mode := u' } :: cs = c₀ :: cs) := by
    rcases hcase with ⟨rfl, rfl, rfl, _⟩ | ⟨rfl, rfl, rfl, _⟩
    · left; simp [recoverD, hu, u']
    · right
      refine ⟨by simp [recoverD, hu], rfl, ?_⟩
      cases c₀
      simp only at hu
      subst hu
      rfl
  have hset : settle u' = .returning := by
    rcases hcase with ⟨rfl, _⟩ | ⟨rfl, _⟩ <;> simp [u', settle]
  refine hand_ops S.ops S.u S.ni S.hi S.hz S.size (fv := fv) (ok := ok) hrec ?_ ?_ ?_
  · rcases hcase with ⟨rfl, _, rfl, _⟩ | ⟨rfl, _, rfl, rfl, _⟩
    · exact .inl ⟨rfl, rfl, by rw [hfs, hzs], hone⟩
    · exact .inr ⟨rfl, rfl, rfl, hzone⟩
  · simp; have := S.nt; omega
  · intro a' hsz hdf hlow h3 h4
    simp only [Exit.thenS]
    -- the memory
    have hVb : (g.addVar w.heap.size).V H1.length = w.heap.size := by simp [Gh.addVar, hI.num]
    obtain ⟨i1, i2⟩ := hI.newVar (PR := PR) (E := failTy) (cells := D.zv.cells) (ds := [.int .i64 0, .int .i64 0]) (by rw [S.zv]; exact .cons (.int _ _) (.cons (.int _ _) .nil)) (by simp [DV.cellOk, DV.ptrsLt]) (by simp [isOwn])
    obtain ⟨old, E', j1, j2, j3, j4⟩ := i1.storeVar (PR := PR.filter fun b => decide (b < H1.length)) (O' := O) (b := H1.length) (o := 0) (vs := [.int .i64 p, .int .i64 e]) (xs := fv.cells.toList) (cs := [.int .i64 0, .int .i64 0])
      (by simp) (by simp) (by rw [hfvc]; exact .cons (.int _ _) (.cons (.int _ _) .nil)) (by simp [DV.cellOk, DV.ptrsLt]) (by simp) (fun c => .inl rfl) (by
        intro j d x hj _ hd
        cases j with
        | zero => simp at hj; subst hj; cases hd
        | succ j => cases j with
          | zero => simp at hj; subst hj; cases hd
          | succ j => simp at hj)
    rw [hVb] at j1 j3 j4
    rw [alloc_new] at j1
    cases j1
    have hrow : (D.zv.cells.toList.take 0 ++ fv.cells.toList ++ D.zv.cells.toList.drop (0 + fv.cells.toList.length)).toArray = fv.cells := by
      have : D.zv.cells.toList.drop (0 + fv.cells.toList.length) = [] := List.drop_eq_nil_of_le (by simp [hfs, hzs])
      rw [this]; simp
    rw [hrow] at j3 j4
    have hset2 : (H1 ++ [[DV.int .i64 0, DV.int .i64 0]]).set H1.length (putAt [DV.int .i64 0, DV.int .i64 0] 0 [DV.int .i64 p, DV.int .i64 e]) = H1 ++ [[DV.int .i64 p, DV.int .i64 e]] := by
      simp [putAt]
    rw [hset2] at j3
    have hh1 : Hist w g O base PR ((w.alloc (.cells D.zv.cells failTy)).setRow w.heap.size fv.cells) (g.addVar w.heap.size) O := by
      have h0 := (i2.mono (PR' := PR.filter fun b => decide (b < H1.length)) (fun b hb => (List.mem_filter.1 hb).1)).trans j4
      refine ⟨h0.ext, h0.rest, ?_, h0.low, h0.size, h0.os, h0.out, h0.tp, h0.sorts⟩
      intro b hb hn
      exact h0.prot b (List.mem_filter.2 ⟨hb, by rw [hI.num] at hn; simpa using hn⟩) hn
    have hle := g.le_addVar w.heap.size
    have hs : SR base ⟨D.fn.ntmps, [], fun _ => true, fun _ => undef⟩ a' ((w.alloc (.cells D.zv.cells failTy)).setRow w.heap.size fv.cells) (g.addVar w.heap.size) O
        ⟨[(0, d0.clean), (1, d1.clean), (2, d2.clean), (3, .ptr H1.length 0), (4, .bool ok)], H1 ++ [[.int .i64 p, .int .i64 e]]⟩ := by
      refine ⟨?_, hdf, (fun _ h => by cases h), j3, ?_, ?_⟩
      · rw [hsz]; simp; omega
      · intro t
        match t with
        | 0 =>
          have e : (#[v0, v1, v2] ++ Array.replicate (D.fn.ntmps - #[v0, v1, v2].size) undef).getD 0 undef = v0 := by
            rw [Array.getD_eq_getD_getElem?, Array.getElem?_append_left (by simp)]; rfl
          rw [hlow 0 (by omega)]
          simp only [e]
          exact (hv0.mono hle).clean
        | 1 =>
          have e : (#[v0, v1, v2] ++ Array.replicate (D.fn.ntmps - #[v0, v1, v2].size) undef).getD 1 undef = v1 := by
            rw [Array.getD_eq_getD_getElem?, Array.getElem?_append_left (by simp)]; rfl
          rw [hlow 1 (by omega)]
          simp only [e]
          exact (hv1.mono hle).clean
        | 2 =>
          have e : (#[v0, v1, v2] ++ Array.replicate (D.fn.ntmps - #[v0, v1, v2].size) undef).getD 2 undef = v2 := by
            rw [Array.getD_eq_getD_getElem?, Array.getElem?_append_left (by simp)]; rfl
          rw [hlow 2 (by omega)]
          simp only [e]
          exact (hv2.mono hle).clean
        | 3 =>
          rw [h3]
          exact VR.newPtr hI _
        | 4 =>
          rw [h4]
          exact .bool ok
        | t + 5 => exact .undef _
      · intro t ht
        exfalso
        match t with
        | 0 => change isOwn d0.clean1 = true at ht; rw [isOwn_clean1] at ht; cases ht
        | 1 => change isOwn d1.clean1 = true at ht; rw [isOwn_clean1] at ht; cases ht
        | 2 => change isOwn d2.clean1 = true at ht; rw [isOwn_clean1] at ht; cases ht
        | 3 => cases ht
        | 4 => cases ht
        | t + 5 => cases ht
    refine wpS_of_wp (wp_mono (hb D.ann _ D.code hnd S.code S.codeOk (codeW_all _) PR _ _ st3 hx w g O a' _ _ O hh1 hs) ?_)
    intro ex a2 w2 ⟨hd2, _, g2, O2, hh2, he2, hs2⟩
    subst he2
    exact ⟨hd2, u', rfl, .tuple #[], results_none S.res _ _ _, hR u' w2 g2 O2 hset hh2 hs2.inv⟩

end Go.Zd
namespace Go.Zd

variable {P : Program} {base : Nat}

structure RunData where
  fn : Func
  pres : List Code
  postC : Code
  id4 : Nat
  ops4 : Array Oper
  ann : Ann
  h : Nat
  hand : HandData

def W3 (c0 c1 c2 : Nat) : Nat → Bool := fun t => !(Nat.beq t c0 || Nat.beq t c1 || Nat.beq t c2)

structure RunSpec (P : Program) (f : Nat) (pre : List DCode) (post hnd : DCode) (res : List DRes) (c0 c1 c2 c3 failTy : Nat) (D : RunData) : Prop where
  hf : P.funcs[f]? = some D.fn
  name : (D.fn.name == "runtime.NumGoroutine") = false
  body : D.fn.body = some (nest D.pres (.seq (.region D.id4 D.ops4 false) D.postC))
  preC : CompL P D.ann ⟨D.fn.ntmps, [], fun _ => true, fun _ => undef⟩ D.pres pre
  size4 : D.ops4.size = 2
  op0 : Is D.ops4 0 (some c3) (.makeFunc (.func D.h) #[] #[.tmp c0, .tmp c1, .tmp c2])
  op1 : Is D.ops4 1 none (.defer { callee := .value (.tmp c3), args := #[], argTypes := #[] })
  c30 : c3 ≠ c0
  c31 : c3 ≠ c1
  c32 : c3 ≠ c2
  c3n : c3 < D.fn.ntmps
  postE : compCode P D.ann D.postC = some post
  postOk : codeOk D.fn.ntmps post = true
  postW : codeW (W3 c0 c1 c2) post = true
  res : compRes P D.fn.results.toList = some res
  hand : HandSpec P D.h hnd failTy D.hand

theorem look3 (c0 c1 c2 t : Nat) (d0 d1 d2 : DV) : (W3 c0 c1 c2 t = false ∧ ((t = c0 ∧ look [(c0, d0), (c1, d1), (c2, d2)] t = d0) ∨ (t = c1 ∧ look [(c0, d0), (c1, d1), (c2, d2)] t = d1) ∨ (t = c2 ∧ look [(c0, d0), (c1, d1), (c2, d2)] t = d2))) ∨
    look [(c0, d0), (c1, d1), (c2, d2)] t = .undef := by
  by_cases h0 : c0 = t
  · subst h0
    exact .inl ⟨by simp [W3], .inl ⟨rfl, look_set_self _ _ _⟩⟩
  · rw [look_set_ne _ _ h0]
    by_cases h1 : c1 = t
    · subst h1
      exact .inl ⟨by simp [W3], .inr (.inl ⟨rfl, look_set_self _ _ _⟩)⟩
    · rw [look_set_ne _ _ h1]
      by_cases h2 : c2 = t
      · subst h2
        exact .inl ⟨by simp [W3], .inr (.inr ⟨rfl, look_set_self _ _ _⟩)⟩
      · rw [look_set_ne _ _ h2]
        exact .inr rfl

theorem run_sim [LowPred] {f : Nat} {pre : List DCode} {post hnd : DCode} {res : List DRes} {c0 c1 c2 c3 failTy : Nat} {D : RunData} (S : RunSpec P f pre post hnd res c0 c1 c2 c3 failTy D) : RunSim P base f pre post hnd res c0 c1 c2 c3 failTy := by
  refine ⟨⟨D.fn, S.hf, by rw [S.body]; rfl, S.name⟩, ?_⟩
  intro rec hb PR args H out H' h w g O vals hI _ _ hv
  have hs := sr_enter hI hv D.fn.ntmps
  unfold runD at h
  split at h
  · -- an early return
    rename_i st hx
    split at h
    · rename_i v hv'
      refine calls_of_wp_defers S.hf S.body (nest_wp hb (ex := .ret) (st' := st) (w0 := w) (g0 := g) (O0 := O) (fun h => by cases h) ?_ S.preC hx _ w g O (.refl _ _ _ _ _) hs)
      intro _ e a1 w1 ⟨hd, _, g1, O1, hh, he, hs1⟩
      subst he
      obtain ⟨x, hr, hR⟩ := sr_ret (P := P) hI hs1 hh S.res hv' h
      show Leaves P D.fn a1.tmps _ a1.defers .returning w1
      rw [hd]
      exact ⟨x, hr, hR⟩
    · cases h
  · rename_i st1 hx
    split at h
    · rename_i ex st hx2
      refine calls_of_wp_defers S.hf S.body (nest_wp hb (ex := .normal) (st' := st1) (w0 := w) (g0 := g) (O0 := O) ?_ (fun h => absurd rfl h) S.preC hx _ w g O (.refl _ _ _ _ _) hs)
      intro _ a1 w1 g1 O1 hh1 hs1
      obtain ⟨x0, k0, m0, n0, q0⟩ := S.op0
      obtain ⟨x1, k1, m1, n1, q1⟩ := S.op1
      have hsz1 : c3 < a1.tmps.size := Nat.lt_of_lt_of_le S.c3n hs1.size
      generalize hv0 : a1.tmps.getD c0 undef = v0
      generalize hv1 : a1.tmps.getD c1 undef = v1
      generalize hv2 : a1.tmps.getD c2 undef = v2
      have e0 : (execOp a1.eval x0).run P w1 = .ok (.value (.func (.func D.h) #[] #[v0, v1, v2])) w1 := by
        simp [execOp, m0, Instr.makeFunc, Act.eval, ← hv0, ← hv1, ← hv2]
      generalize ha2 : a1.put (some c3) (.func (.func D.h) #[] #[v0, v1, v2]) = a2
      have ev2 : a2.eval (.tmp c3) = .func (.func D.h) #[] #[v0, v1, v2] := by rw [← ha2]; exact put_self hsz1
      have e1 : (execOp a2.eval x1).run P w1 = .ok (.defer { target := .fn (.func D.h) #[v0, v1, v2], args := #[] }) w1 := by
        simp [execOp, m1, resolve, ev2, Deferred.ofValue]
      have hd2 : a2.defers = [] := by rw [← ha2, put_defers']; exact hs1.defers
      refine wp_seq (wp_region ?_)
      rw [S.size4, show List.range 2 = [0, 1] from rfl]
      simp only [wpOps, k0, Region.wanted, q0, if_true]
      left
      unfold Oper.wp
      rw [e0, Oper.upon_value, n0, ha2]
      simp only [k1, q1, if_true]
      left
      rw [e1, Oper.upon_defer, n1]
      simp only [Exit.then, Act.put, hd2]
      -- behind the deferred call
      have hT : ∀ t, c3 ≠ t → a2.tmps.getD t undef = a1.tmps.getD t undef := by
        intro t ht; rw [← ha2]; exact put_at ht
      have hs2 : SR base ⟨D.fn.ntmps, [{ target := .fn (.func D.h) #[v0, v1, v2], args := #[] }], W3 c0 c1 c2, fun t => a2.tmps.getD t undef⟩ { a2 with defers := [{ target := .fn (.func D.h) #[v0, v1, v2], args := #[] }] } w1 g1 O1 ⟨(c3, .undef) :: st1.tm, st1.H⟩ := by
        refine ⟨?_, rfl, fun _ _ => rfl, hs1.inv, ?_, ?_⟩
        · show D.fn.ntmps ≤ a2.tmps.size
          rw [← ha2, put_size]; exact hs1.size
        · intro t
          by_cases ht : c3 = t
          · subst ht; simp only [look_set_self]; exact .undef _
          · rw [look_set_ne _ _ ht]
            simp only [hT t ht]
            exact hs1.slots t
        · intro t ht
          by_cases h3 : c3 = t
          · subst h3; simp only [look_set_self] at ht; cases ht
          · rw [look_set_ne _ _ h3] at ht
            simp only [hT t h3]
            exact hs1.own t ht
      refine wp_mono (hb D.ann _ D.postC post S.postE S.postOk S.postW PR _ ex st hx2 w1 g1 O1 _ w1 g1 O1 (.refl _ _ _ _ _) hs2) ?_
      intro e a4 w4 ⟨hd4, hfr, g4, O4, hh4, hex⟩
      -- the deferred call, and the results
      have fin : ∀ (ok : Bool) (u : FrameMode) (r fv : Value) (p q : Int), u ≠ .run → Inv w4 g4 O4 st.H base → handle rec PR hnd res c0 c1 c2 H.length st1.tm st.H [.int .i64 p, .int .i64 q] ok = some (out, H') →
          ((ok = true ∧ u = .panicking [{ v := .iface failTy fv, recovered := false }] ∧ r = .iface failTy fv ∧ VR g4 fv (.agg [.int .i64 p, .int .i64 q])) ∨ (ok = false ∧ u = .returning ∧ r = .nilIface ∧ fv = D.hand.zv ∧ p = 0 ∧ q = 0)) →
          Leaves P D.fn a4.tmps (RetR base PR w g O out H') a4.defers u w4 := by
        intro ok u r fv p q hu hI4 hhd hcase
        rw [hd4]
        unfold handle at hhd
        split at hhd
        · rename_i st3 hx3
          split at hhd
          · rename_i v hv'
            have hle : g1.Le g4 := hh4.ext
            have t0 : VR g4 v0 (look st1.tm c0).clean := by rw [← hv0]; exact (hs1.slots c0).mono hle
            have t1 : VR g4 v1 (look st1.tm c1).clean := by rw [← hv1]; exact (hs1.slots c1).mono hle
            have t2 : VR g4 v2 (look st1.tm c2).clean := by rw [← hv2]; exact (hs1.slots c2).mono hle
            refine ⟨hu, .func D.h, #[v0, v1, v2], D.h, #[v0, v1, v2], rfl, ?_, ?_⟩
            · have := (Enters.run ⟨D.hand.fn, S.hand.hf, by rw [S.hand.body]; rfl, S.hand.name⟩ : ∀ args w, (callFunc D.h args).run P w = .ok (.enter D.h args) w) #[v0, v1, v2] w4
              simpa [invoke] using this
            · refine hand_sim hb S.hand hx3 hI4 t0 t1 t2 hcase ?_
              intro u' w5 g5 O5 hset hh5 hI5
              simp only [hset]
              have hle5 : g4.Le g5 := hh5.ext
              have hs5 : SR base ⟨0, a4.defers, fun _ => true, fun _ => undef⟩ a4 w5 g5 O5 ⟨[(c0, (look st1.tm c0).clean), (c1, (look st1.tm c1).clean), (c2, (look st1.tm c2).clean)], st3.H⟩ := by
                refine ⟨Nat.zero_le _, rfl, (fun _ h => by cases h), hI5, ?_, ?_⟩
                · intro t
                  rcases look3 c0 c1 c2 t (look st1.tm c0).clean (look st1.tm c1).clean (look st1.tm c2).clean with ⟨hw, h⟩ | h
                  · have ht := hfr t hw
                    simp only at ht
                    rcases h with ⟨rfl, h⟩ | ⟨rfl, h⟩ | ⟨rfl, h⟩
                    · simp only [h]; rw [ht, hT _ S.c30, hv0]; exact (t0.mono hle5).clean
                    · simp only [h]; rw [ht, hT _ S.c31, hv1]; exact (t1.mono hle5).clean
                    · simp only [h]; rw [ht, hT _ S.c32, hv2]; exact (t2.mono hle5).clean
                  · simp only [h]; exact .undef _
                · intro t ht
                  rcases look3 c0 c1 c2 t (look st1.tm c0).clean (look st1.tm c1).clean (look st1.tm c2).clean with ⟨_, h⟩ | h
                  · rcases h with ⟨_, h⟩ | ⟨_, h⟩ | ⟨_, h⟩ <;> (simp only [h] at ht; rw [isOwn_clean1] at ht; cases ht)
                  · simp only [h] at ht; cases ht
              obtain ⟨x, hr, hR⟩ := sr_ret (P := P) hI hs5 ((hh1.trans hh4).trans hh5) S.res hv' hhd
              exact ⟨x, hr, hR⟩
          · cases hhd
        · cases hhd
      unfold settleD at h
      split at h
      · obtain ⟨rfl, hs4⟩ := hex
        exact fin false .returning .nilIface D.hand.zv 0 0 (by simp) hs4.inv h (.inr ⟨rfl, rfl, rfl, rfl, rfl, rfl⟩)
      · rename_i t p q
        split at h
        · rename_i hbt
          have := Nat.eq_of_beq_eq_true hbt
          subst this
          obtain ⟨y, rfl, hy, hI4⟩ := hex
          cases hy with
          | iface _ yv _ hyv =>
            exact fin true (.panicking [{ v := .iface t yv, recovered := false }]) (.iface t yv) yv p q (by simp) hI4 h (.inl ⟨rfl, rfl, rfl, hyv⟩)
        · cases h
      · cases h
    · cases h
  · cases h

end Go.Zd
