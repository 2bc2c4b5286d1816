/- Operations, one by one. -/
import Derived.Test.YthcoldfgpigdhaaGreatDoorZC
import Derived.Test.YthcoldfgpigdhaaGreatDoorZA
namespace Go.Zd

variable {P : Program} {g : Gh} {tm : List (Nat × DV)} {w : World} {O : Nat → Loc} {H : List (List DV)} {base : Nat} {ρ : Operand → Value} {PR : List Nat}

theorem pointee_of {t e : TypeId} (h : P.underlying t = some (.pointer e)) : P.underlying t = some (.pointer (P.pointee t)) := by
  unfold Program.pointee
  rw [h]

theorem sim_bin4 [LowPred] {o : Oper} {op : BinOp} {t u e : TypeId} {x y : Operand} {dx dy v : DV} (ho : o.op = .binOp op t x y u) (hu : P.underlying t = some (.pointer e))
    (hx : VR g (ρ x) dx) (hy : VR g (ρ y) dy) (hp : binDV 4 op dx dy = some v) :
    ∃ z, (execOp ρ o).run P w = .ok (.value z) w ∧ VR g z v := by
  generalize hxv : ρ x = xv at hx
  generalize hyv : ρ y = yv at hy
  have main : ∀ (a : Option Addr), ρ x = .pointer a → ρ y = .pointer none → nilOp op a.isNone = some v → ∃ z, (execOp ρ o).run P w = .ok (.value z) w ∧ VR g z v := by
    intro a e1 e2 hv
    have e0 : (eqGuard op t x y (.pointer a) (.pointer none)).run P w = .ok () w := by
      unfold eqGuard
      cases op <;> rfl
    have key : ∀ z : Value, (binOp op t (.pointer a) (.pointer none)).run P w = .ok z w → (execOp ρ o).run P w = .ok (.value z) w := by
      intro z hz
      simp [execOp, ho, e1, e2, e0, hz]
    cases op <;> simp only [nilOp] at hv <;> cases hv
    · exact ⟨_, key _ (run_eql_pointer_nil (P := P) w t a (pointee_of hu)), .bool _⟩
    · exact ⟨_, key _ (run_neq_pointer_nil (P := P) w t a (pointee_of hu)), .bool _⟩
  unfold binDV at hp
  cases hx <;> cases hy <;> simp at hp
  · exact main _ hxv hyv (by simpa using hp)
  · exact main _ hxv hyv (by simpa using hp)
  · exact main _ hxv hyv (by simpa using hp)

theorem sim_bin [LowPred] {o : Oper} {op : BinOp} {t u : TypeId} {x y : Operand} {dx dy : DX} {v : DV} {ty : Nat} (ho : o.op = .binOp op t x y u) (hty : eqTy P op t x y = some ty)
    (hs : OpR g ρ tm) (hx : opd x = some dx) (hy : opd y = some dy) (hp : binDV ty op (rdc tm dx) (rdc tm dy) = some v) :
    ∃ z, (execOp ρ o).run P w = .ok (.value z) w ∧ VR g z v := by
  have h1 := hs _ _ hx
  have h2 := hs _ _ hy
  generalize rdc tm dx = a at h1 hp
  generalize rdc tm dy = b at h2 hp
  have t0 : ty = 0 → ∃ z, (execOp ρ o).run P w = .ok (.value z) w ∧ VR g z v := by
    rintro rfl
    have hp' := hp
    unfold binDV at hp'
    split at hp'
    all_goals first
      | exact sim_bin0_int ho (vr_int h1) (vr_int h2) hp
      | (obtain ⟨sa, ea, rfl⟩ := vr_str h1; obtain ⟨sb, eb, rfl⟩ := vr_str h2; exact sim_bin0_str ho ea eb hp)
      | (cases hp'; done)
      | (exfalso; simp at *; done)
      | (exfalso; omega)
  have t1 : ty = 1 → P.underlying t = some .bool → ∃ z, (execOp ρ o).run P w = .ok (.value z) w ∧ VR g z v := by
    rintro rfl hu
    have hp' := hp
    unfold binDV at hp'
    split at hp'
    all_goals first
      | exact sim_bin1 ho hu (vr_bool h1) (vr_bool h2) hp
      | (cases hp'; done)
      | (exfalso; simp at *; done)
      | (exfalso; omega)
  unfold eqTy at hty
  split at hty
  any_goals (
    split at hty
    · cases hty; exact t0 rfl
    · cases hty; exact t0 rfl
    · cases hty; rename_i hu; exact t1 rfl hu
    · rename_i ms hu
      split at hty
      · cases hty; exact sim_bin2 ho hu (.inl rfl) h1 h2 hp
      · cases hty; exact sim_bin2 ho hu (.inr rfl) h1 h2 hp
      · cases hty
    · rename_i e hu; cases hty; exact sim_bin3 ho hu h1 h2 hp
    · rename_i e hu; cases hty; exact sim_bin4 ho hu h1 h2 hp
    · cases hty)
  split at hty <;> cases hty <;> exact t0 rfl

theorem vr_pureR [LowPred] {o : Oper} {v : DV} (h : ∃ y, (execOp ρ o).run P w = .ok (.value y) w ∧ VR g y v) (hI : Inv w g O H base) :
    ∃ y w' g', (execOp ρ o).run P w = .ok (.value y) w' ∧ VR g' y v ∧ Inv w' g' O H base ∧ Hist w g O base PR w' g' O ∧ (∀ k, k < w.heap.size → g'.G k = g.G k) := by
  obtain ⟨y, h1, h2⟩ := h
  exact ⟨y, w, g, h1, h2, hI, .refl _ _ _ _ _, fun _ _ => rfl⟩

theorem omap_some {α β : Type} {f : α → β} {x : Option α} {y : β} (h : x.map f = some y) : ∃ a, x = some a ∧ y = f a := by
  cases x with
  | none => cases h
  | some a => cases h; exact ⟨a, rfl, rfl⟩

theorem pure_sim [LowPred] (hI : Inv w g O H base) {ops : List Oper} {i : Nat} {o : Oper} {d : DOp} {v : DV} (hc : compOp P ops i o = some d) (hs : OpR g ρ tm) (hp : pureOp tm d = some v) (hd : simple d = true) :
    ∃ y w' g', (execOp ρ o).run P w = .ok (.value y) w' ∧ VR g' y v ∧ Inv w' g' O H base ∧ Hist w g O base PR w' g' O ∧ (∀ k, k < w.heap.size → g'.G k = g.G k) := by
  unfold compOp at hc
  split at hc
  · cases hc; cases hd
  split at hc
  · rename_i x ho
    split at hc
    · cases hc; cases hp
    · obtain ⟨dx, hx, rfl⟩ := omap_some hc
      exact vr_pureR (sim_move (.inl ho) hs hx hp) hI
  · rename_i x ho
    split at hc
    · cases hc; cases hp
    · obtain ⟨dx, hx, rfl⟩ := omap_some hc
      exact vr_pureR (sim_move (.inr ho) hs hx hp) hI
  · -- pick
    rename_i c a b ho
    split at hc
    · rename_i dc da db hc1 ha hb; cases hc
      exact vr_pureR (sim_pick ho hs hc1 ha hb hp) hI
    · cases hc
  · -- alloc
    split at hc
    · split at hc
      · cases hc; cases hp
      · cases hc
    · cases hc
  · -- box
    obtain ⟨dx, hx, rfl⟩ := omap_some hc; cases hp
  · -- build
    rename_i t parts ho
    split at hc
    · rename_i fs it v' hu hi
      split at hc
      · rename_i z ps hz hps
        split at hc
        · rename_i hall; cases hc
          exact vr_pureR (sim_build ho hs hu hi rfl hz hps hall hp) hI
        · cases hc
      · cases hc
    · cases hc
  · -- buildSlice
    rename_i t len parts ho
    split at hc
    · rename_i e hu
      split at hc
      · rename_i n zv hn hzv
        split at hc
        · rename_i z ps hz hps
          split at hc
          · rename_i hcond; cases hc
            simp only [Bool.and_eq_true, decide_eq_true_eq] at hcond
            cases hi : P.info? e with
            | none => rw [hi] at hzv; cases hzv
            | some ie =>
              rw [hi] at hzv
              have hn' : ie.size = n := by
                unfold szOf at hn; rw [hi] at hn; simpa using hn
              exact sim_bslice hI ho hs hu hi hn' (by simpa using hzv) hz hps hcond.1.1.1.1 hcond.1.1.1.2 hcond.1.1.2 hcond.2 hp
          · cases hc
        · cases hc
      · cases hc
    · cases hc
  · -- load
    split at hc
    · split at hc
      · cases hc; cases hp
      · cases hc
    · cases hc
  · -- store
    split at hc
    · cases hc; cases hp
    · cases hc
  · -- nilCheck
    rename_i x ho
    obtain ⟨dx, hx, rfl⟩ := omap_some hc
    exact vr_pureR (sim_nilchk ho hs hx hp) hI
  · -- binOp
    rename_i op t x y u ho
    split at hc
    · rename_i ty dx dy hty hx hy; cases hc
      exact vr_pureR (sim_bin ho hty hs hx hy hp) hI
    · cases hc
  · -- unOp
    rename_i op t x ho
    obtain ⟨dx, hx, rfl⟩ := omap_some hc
    exact vr_pureR (sim_un ho hs hx hp) hI
  · -- convert
    rename_i s t x ho
    split at hc
    · rename_i k' k dx h1 h2 hx; cases hc
      exact vr_pureR (sim_conv ho hs hx h1 h2 hp) hI
    · rename_i dx h1 h2 hx; cases hc
      exact vr_pureR (sim_convId ho hs hx h1 h2 hp) hI
    · split at hc
      · cases hc; cases hd
      · cases hc
    · cases hc
  · -- makeInterface
    rename_i t x ho
    split at hc
    · cases hc
    · rename_i u h1 hne
      obtain ⟨dx, hx, rfl⟩ := omap_some hc
      exact vr_pureR (sim_mkif ho hs hx hne h1 hp) hI
    · cases hc
  · -- makeFunc
    rename_i f first caps ho
    split at hc
    · rename_i a b ha hb; cases hc
      exact vr_pureR (sim_mkfn ho hs ha hb hp) hI
    · cases hc
  · -- slice
    rename_i t x lo hi mx ho
    split at hc
    · rename_i dx l h hu hx hl hh hm; cases hc
      have hm' : mx = none := by
        rcases opdO_some hm with ⟨h, _⟩ | ⟨_, _, _, h, _⟩
        · exact h
        · cases h
      subst hm'
      exact vr_pureR (sim_slc_str ho hs hx hl hh hu hp) hI
    · rename_i e dx l h m hu hx hl hh hm
      split at hc
      · rename_i n hn
        split at hc
        · cases hc
        · rename_i hcond; cases hc
          refine vr_pureR (sim_slc_slice ho hs hx hl hh hm hu hn ?_ hp) hI
          intro hmn hhn
          subst hhn
          cases m with
          | none => exact hmn rfl
          | some m => simp at hcond
      · cases hc
    · cases hc
  · -- fieldAddr
    rename_i t x f ho
    split at hc
    · rename_i fs hu
      split at hc
      · rename_i fd dx hf hx
        split at hc
        · rename_i n hn
          split at hc
          · cases hc
          · rename_i h0; cases hc
            exact vr_pureR (sim_faddr ho hs hx hu hf hn (by simpa using h0) hp) hI
        · cases hc
      · cases hc
    · cases hc
  · -- field
    rename_i t x f ho
    split at hc
    · rename_i fs hu
      split at hc
      · rename_i fd dx hf hx
        split at hc
        · rename_i n hn
          split at hc
          · rename_i ag hag
            split at hc
            · rename_i h0; cases hc
              exact vr_pureR (sim_fld ho hs hx hu hf hn hag h0 hp) hI
            · cases hc
          · cases hc
        · cases hc
      · cases hc
    · cases hc
  · -- indexAddr
    rename_i t x ix ho
    split at hc
    · rename_i e hu
      split at hc
      · rename_i n dx di hn hx hi; cases hc
        exact vr_pureR (sim_iaddr hI ho hs hx hi hu hn hp) hI
      · cases hc
    · cases hc
  · -- index
    rename_i t x ix ho
    split at hc
    · rename_i hu
      split at hc
      · rename_i dx di hx hi; cases hc
        exact vr_pureR (sim_idx ho hs hx hi hu hp) hI
      · cases hc
    · cases hc
  · -- extract
    rename_i x ix ho
    obtain ⟨dx, hx, rfl⟩ := omap_some hc
    exact vr_pureR (sim_extract ho hs hx hp) hI
  · -- call
    split at hc
    · cases hc; cases hp
    · cases hc
  · -- len
    rename_i args tys ho
    split at hc
    · rename_i x t ha ht
      split at hc
      · rename_i hu
        obtain ⟨dx, hx, rfl⟩ := omap_some hc
        exact vr_pureR (sim_len_str ho ha ht hs hx hu hp) hI
      · rename_i e hu
        obtain ⟨dx, hx, rfl⟩ := omap_some hc
        exact vr_pureR (sim_len_slice ho ha ht hs hx hu hp) hI
      · cases hc
    · cases hc
  · -- max
    rename_i args tys ho
    split at hc
    · rename_i x r ha; cases hc
      exact vr_pureR (sim_max ho hs ha hp) hI
    · cases hc
  · -- min
    rename_i args tys ho
    split at hc
    · rename_i x r ha; cases hc
      exact vr_pureR (sim_min ho hs ha hp) hI
    · cases hc
  · -- append
    split at hc
    · split at hc
      · split at hc
        · split at hc
          · split at hc
            · split at hc
              · split at hc
                · cases hc; cases hd
                · cases hc
              · split at hc
                · cases hc; cases hp
                · cases hc
            · cases hc
          · cases hc
        · cases hc
      · cases hc
    · cases hc
  · -- panic
    obtain ⟨dx, hx, rfl⟩ := omap_some hc; cases hp
  · cases hc

end Go.Zd
namespace Go.Zd

variable {tm tm' : List (Nat × DV)}

theorem rdc_of {l : List DX} (h : ∀ t ∈ slotsOf l, (look tm t).clean1 = (look tm' t).clean1) {x : DX} (hx : x ∈ l) : rdc tm x = rdc tm' x := by
  cases x with
  | k v => rfl
  | t n => exact h n (List.mem_filterMap.2 ⟨.t n, hx, rfl⟩)

theorem buildDV_congr : ∀ (ps : List (Nat × Nat × DX)) (z : List DV), (∀ x ∈ ps.map (·.2.2), rdc tm x = rdc tm' x) → buildDV tm z ps = buildDV tm' z ps
  | [], _, _ => rfl
  | (off, n, x) :: r, z, h => by
    have hx := h x (by simp)
    simp only [buildDV, hx]
    split
    · exact buildDV_congr r _ fun y hy => h y (by simp only [List.map_cons, List.mem_cons]; exact .inr hy)
    · rfl

theorem setElem_congr {wd : Nat} : ∀ (ps : List (Nat × DX)) (es : List DV), (∀ x ∈ ps.map (·.2), rdc tm x = rdc tm' x) → setElem tm wd es ps = setElem tm' wd es ps
  | [], _, _ => rfl
  | (i, x) :: r, es, h => by
    have hx := h x (by simp)
    simp only [setElem, hx]
    split
    · exact setElem_congr r _ fun y hy => h y (by simp only [List.map_cons, List.mem_cons]; exact .inr hy)
    · rfl

theorem foldDV_congr {f : DV → DV → Option DV} : ∀ (l : List DX) (v : DV), (∀ x ∈ l, rdc tm x = rdc tm' x) → foldDV f tm v l = foldDV f tm' v l
  | [], _, _ => rfl
  | x :: r, v, h => by
    simp only [foldDV, h x (by simp)]
    split
    · exact foldDV_congr r _ fun y hy => h y (by simp [hy])
    · rfl

theorem map_rdc_congr {l : List DX} (h : ∀ x ∈ l, rdc tm x = rdc tm' x) : l.map (rdc tm) = l.map (rdc tm') := List.map_congr_left h

theorem evO_congr {x : Option DX} (h : ∀ y ∈ x.toList, rdc tm y = rdc tm' y) : evO tm x = evO tm' x := by
  cases x with
  | none => rfl
  | some y => simp only [evO, Option.map_some, h y (by simp)]

theorem pureOp_congr {d : DOp} (h : ∀ x ∈ dxs d, rdc tm x = rdc tm' x) : pureOp tm d = pureOp tm' d := by
  cases d with
  | build z ps => simp only [pureOp, buildDV_congr ps z h]
  | bslice wd len z ps => simp only [pureOp, setElem_congr ps _ h]
  | mkfn f a b =>
    have h1 : a.map (fun x => rdc tm x) = a.map (fun x => rdc tm' x) := map_rdc_congr fun x hx => h x (List.mem_append_left _ hx)
    have h2 : b.map (fun x => rdc tm x) = b.map (fun x => rdc tm' x) := map_rdc_congr fun x hx => h x (List.mem_append_right _ hx)
    simp only [pureOp, h1, h2]
  | slc str wd x lo hi mx =>
    have hx := h x (by simp [dxs])
    have hl : evO tm lo = evO tm' lo := evO_congr fun y hy => h y (by simp only [dxs, List.mem_cons, List.mem_append]; exact .inr (.inl (.inl hy)))
    have hh : evO tm hi = evO tm' hi := evO_congr fun y hy => h y (by simp only [dxs, List.mem_cons, List.mem_append]; exact .inr (.inl (.inr hy)))
    have hm : evO tm mx = evO tm' mx := evO_congr fun y hy => h y (by simp only [dxs, List.mem_cons, List.mem_append]; exact .inr (.inr hy))
    simp only [pureOp, hx, hl, hh, hm]
  | maxN x r => simp only [pureOp, h x (by simp [dxs]), foldDV_congr r _ fun y hy => h y (by simp [dxs, hy])]
  | minN x r => simp only [pureOp, h x (by simp [dxs]), foldDV_congr r _ fun y hy => h y (by simp [dxs, hy])]
  | move x => simp only [pureOp, h x (by simp [dxs])]
  | pick c a b => simp only [pureOp, h c (by simp [dxs]), h a (by simp [dxs]), h b (by simp [dxs])]
  | nilchk x => simp only [pureOp, h x (by simp [dxs])]
  | bin ty op x y => simp only [pureOp, h x (by simp [dxs]), h y (by simp [dxs])]
  | un op x => simp only [pureOp, h x (by simp [dxs])]
  | conv k x => simp only [pureOp, h x (by simp [dxs])]
  | convId x => simp only [pureOp, h x (by simp [dxs])]
  | convStr x => simp only [pureOp, h x (by simp [dxs])]
  | mkif t x => simp only [pureOp, h x (by simp [dxs])]
  | faddr o x => simp only [pureOp, h x (by simp [dxs])]
  | fld a n o x => simp only [pureOp, h x (by simp [dxs])]
  | iaddr w x y => simp only [pureOp, h x (by simp [dxs]), h y (by simp [dxs])]
  | idx x y => simp only [pureOp, h x (by simp [dxs]), h y (by simp [dxs])]
  | extract x i => simp only [pureOp, h x (by simp [dxs])]
  | len s x => simp only [pureOp, h x (by simp [dxs])]
  | _ => rfl

end Go.Zd
namespace Go.Zd

variable {P : Program} {g : Gh} {tm : List (Nat × DV)} {w : World} {O : Nat → Loc} {H : List (List DV)} {base : Nat} {ρ : Operand → Value} {PR : List Nat}

def EInv (P : Program) (o : Oper) : DOp → Prop
  | .take t => o.op = .move (.tmp t) ∨ o.op = .assign (.tmp t)
  | .move d => ∃ X, (o.op = .move X ∨ o.op = .assign X) ∧ opd X = some d
  | .alloc z => ∃ t it zv, o.op = .alloc t ∧ P.info? t = some it ∧ it.zero = some zv ∧ constL zv.cells.toList = some z
  | .box dx => ∃ t x, o.op = .box t x ∧ opd x = some dx
  | .load ag n dx _ => ∃ t a, o.op = .load t a ∧ szOf P t = some n ∧ aggO P t = some ag ∧ opd a = some dx ∧ (ag || n == 1) = true
  | .store n da dx tk _ => ∃ t a x, o.op = .store t a x ∧ szOf P t = some n ∧ opd a = some da ∧ opd x = some dx ∧ ∀ t', tk = some t' → x = .tmp t' ∧ n = 1
  | .call df l => ∃ f args tys, o.op = .call { callee := .value f, args, argTypes := tys } ∧ opd f = some df ∧ opdL args.toList = some l
  | .app _ n dx dy => ∃ args tys x y t e ie zv, o.op = .call { callee := .builtin .append, args, argTypes := tys } ∧ args.toList = [x, y] ∧ tys.toList = [t, t] ∧
      P.underlying t = some (.slice e) ∧ P.info? e = some ie ∧ ie.zero = some zv ∧ ie.size = n ∧ 0 < n ∧ ie.bytes ≤ 65536 ∧ zv.cells.size = n ∧ opd x = some dx ∧ opd y = some dy
  | .panic dx => ∃ x, o.op = .panic x ∧ opd x = some dx
  | _ => True

theorem takeable_tmp {ops : List Oper} {i : Nat} {x : Operand} {t : Nat} (h : takeable ops i x = some t) : x = .tmp t := by
  unfold takeable at h
  split at h
  · split at h
    · split at h
      · cases h; rfl
      · cases h; rfl
      · cases h
    · cases h
  · cases h

theorem einv [LowPred] {ops : List Oper} {i : Nat} {o : Oper} {d : DOp} (hc : compOp P ops i o = some d) : EInv P o d := by
  unfold compOp at hc
  split at hc
  · cases hc; trivial
  split at hc
  · rename_i x ho
    split at hc
    · rename_i t ht; cases hc; rw [takeable_tmp ht] at ho; exact .inl ho
    · obtain ⟨dx, hx, rfl⟩ := omap_some hc; exact ⟨x, .inl ho, hx⟩
  · rename_i x ho
    split at hc
    · rename_i t ht; cases hc; rw [takeable_tmp ht] at ho; exact .inr ho
    · obtain ⟨dx, hx, rfl⟩ := omap_some hc; exact ⟨x, .inr ho, hx⟩
  · split at hc
    · cases hc; trivial
    · cases hc
  · -- alloc
    rename_i t ho
    split at hc
    · rename_i hi
      split at hc
      · rename_i z zs hz; cases hc; exact ⟨t, _, _, ho, hi, rfl, hz⟩
      · cases hc
    · cases hc
  · -- box
    rename_i t x ho
    obtain ⟨dx, hx, rfl⟩ := omap_some hc; exact ⟨t, x, ho, hx⟩
  · -- build
    split at hc
    · split at hc
      · split at hc
        · cases hc; trivial
        · cases hc
      · cases hc
    · cases hc
  · -- buildSlice
    split at hc
    · split at hc
      · split at hc
        · split at hc
          · cases hc; trivial
          · cases hc
        · cases hc
      · cases hc
    · cases hc
  · -- load
    rename_i t a ho
    split at hc
    · rename_i n ag dx hn hag hx
      split at hc
      · rename_i h; cases hc; exact ⟨t, a, ho, hn, hag, hx, h⟩
      · cases hc
    · cases hc
  · -- store
    rename_i t a x ho
    split at hc
    · rename_i n da dx hn ha hx; cases hc
      refine ⟨t, a, x, ho, hn, ha, hx, ?_⟩
      intro t' ht'
      split at ht'
      · rename_i h1; exact ⟨takeable_tmp ht', by simpa using h1⟩
      · cases ht'
    · cases hc
  · obtain ⟨dx, hx, rfl⟩ := omap_some hc; trivial
  · split at hc
    · cases hc; trivial
    · cases hc
  · obtain ⟨dx, hx, rfl⟩ := omap_some hc; trivial
  · split at hc
    · cases hc; trivial
    · cases hc; trivial
    · split at hc
      · cases hc; trivial
      · cases hc
    · cases hc
  · split at hc
    · cases hc
    · obtain ⟨dx, hx, rfl⟩ := omap_some hc; trivial
    · cases hc
  · split at hc
    · cases hc; trivial
    · cases hc
  · -- slice
    split at hc
    · cases hc; trivial
    · split at hc
      · split at hc
        · cases hc
        · cases hc; trivial
      · cases hc
    · cases hc
  · split at hc
    · split at hc
      · split at hc
        · split at hc
          · cases hc
          · cases hc; trivial
        · cases hc
      · cases hc
    · cases hc
  · split at hc
    · split at hc
      · split at hc
        · split at hc
          · split at hc
            · cases hc; trivial
            · cases hc
          · cases hc
        · cases hc
      · cases hc
    · cases hc
  · split at hc
    · split at hc
      · cases hc; trivial
      · cases hc
    · cases hc
  · split at hc
    · split at hc
      · cases hc; trivial
      · cases hc
    · cases hc
  · obtain ⟨dx, hx, rfl⟩ := omap_some hc; trivial
  · -- call
    rename_i f args tys ho
    split at hc
    · rename_i df l hf hl; cases hc; exact ⟨f, args, tys, ho, hf, hl⟩
    · cases hc
  · split at hc
    · split at hc
      · obtain ⟨dx, hx, rfl⟩ := omap_some hc; trivial
      · obtain ⟨dx, hx, rfl⟩ := omap_some hc; trivial
      · cases hc
    · cases hc
  · split at hc
    · cases hc; trivial
    · cases hc
  · split at hc
    · cases hc; trivial
    · cases hc
  · -- append
    rename_i args tys ho
    split at hc
    · rename_i x y t u hax hty
      split at hc
      · rename_i e hu
        split at hc
        · rename_i hi
          split at hc
          · rename_i hcond
            simp only [Bool.and_eq_true, decide_eq_true_eq, beq_iff_eq] at hcond
            split at hc
            · rename_i dx hx
              split at hc
              · split at hc
                · cases hc; trivial
                · cases hc
              · split at hc
                · rename_i dy hy; cases hc
                  exact ⟨args, tys, x, y, t, e, _, _, ho, hax, by rw [hty, hcond.1.2], hu, hi, rfl, rfl, hcond.1.1.1, hcond.1.1.2, hcond.2, hx, hy⟩
                · cases hc
            · cases hc
          · cases hc
        · cases hc
      · cases hc
    · cases hc
  · -- panic
    rename_i x ho
    obtain ⟨dx, hx, rfl⟩ := omap_some hc; exact ⟨x, ho, hx⟩
  · cases hc

end Go.Zd
namespace Go.Zd

variable {P : Program} {g : Gh} {tmi : List (Nat × DV)} {w : World} {O : Nat → Loc} {H : List (List DV)} {base : Nat} {PR : List Nat}

/-- what callees may not touch -/
def hide (O : Nat → Loc) : Nat → Loc := fun c => match O c with
  | .slot _ => .rest
  | .res => .rest
  | l => l

structure EffR [LowPred] (PR : List Nat) (base : Nat) (s' : RSt) (dst : Option Nat) (w : World) (g : Gh) (O : Nat → Loc) (y : Value) (w' : World) (g' : Gh) (O' : Nat → Loc) : Prop where
  inv : Inv w' g' O' s'.st.H base
  hist : Hist w g O base (PR ++ s'.L.map (·.2)) w' g' O'
  val : ∀ t, dst = some t → VR g' y (look s'.st.tm t).clean ∧ (isOwn (look s'.st.tm t) = true → OwnAt g' O' base y (.slot t))
  keep : ∀ c t, O c = .slot t → dst ≠ some t → isOwn (look s'.st.tm t) = true → O' c = .slot t ∧ g'.G c = g.G c

/-- the operation runs, and comes to the state s' (x: a panic) -/
def OpSim [LowPred] (P : Program) (PR : List Nat) (base : Nat) (o : Oper) (a : Act) (w : World) (g : Gh) (O : Nat → Loc) (x : Option DV) (s' : RSt) : Prop :=
  ∀ (next : Act → World → Prop) (Q : Exit → Act → World → Prop),
    (x = none → ∀ y w' g' O', EffR PR base s' o.dst w g O y w' g' O' → next (a.put o.dst y) w') →
    (∀ v, x = some v → ∀ y w' g' O', VR g' y v → Inv w' g' O' s'.st.H base → Hist w g O base PR w' g' O' → Q (.panic [{ v := y, recovered := false }]) a w') →
    o.wp P a w next Q

structure Pre [LowPred] (base : Nat) (s : RSt) (a : Act) (w : World) (g : Gh) (O : Nat → Loc) (d : DOp) (tmi : List (Nat × DV)) : Prop where
  inv : Inv w g O s.st.H base
  opr : OpR g a.eval tmi
  agree : ∀ x ∈ dxs d, rdc tmi x = rdc s.st.tm x
  own : ∀ t, DX.t t ∈ dxs d → isOwn (look s.st.tm t) = true → OwnAt g O base (a.tmps.getD t undef) (.slot t)

theorem opSim_value [LowPred] {o : Oper} {a : Act} {x : Option DV} {s' : RSt} {y : Value} {w' : World} {g' : Gh} {O' : Nat → Loc} (hx : x = none) (hr : (execOp a.eval o).run P w = .ok (.value y) w')
    (h : EffR PR base s' o.dst w g O y w' g' O') : OpSim P PR base o a w g O x s' := by
  intro next Q h1 _
  unfold Oper.wp
  rw [hr]
  exact h1 hx _ _ _ _ h

theorem opSim_skip [LowPred] {o : Oper} {a : Act} {x : Option DV} {s' : RSt} {w' : World} {g' : Gh} {O' : Nat → Loc} (hx : x = none) (hr : (execOp a.eval o).run P w = .ok .skip w')
    (h : EffR PR base s' o.dst w g O undef w' g' O') : OpSim P PR base o a w g O x s' := by
  intro next Q h1 _
  unfold Oper.wp
  rw [hr]
  exact h1 hx _ _ _ _ h

theorem own_lt [LowPred] (hI : Inv w g O H base) {c : Nat} {l : Loc} (h : O c = l) (hl : l ≠ .none) : c < w.heap.size := by
  rcases Nat.lt_or_ge c w.heap.size with h1 | h1
  · exact h1
  · exact absurd ((hI.dom c h1).symm.trans h).symm hl

theorem VR.unclean {x : Value} {d : DV} (h : VR g x d.clean) : VR g x d := by
  cases d with
  | slice fl wd es =>
    cases fl with
    | own => cases h with
      | slice c i len cap ga fl h hi hc hz hf => exact .slice c i len cap ga .own h hi hc hz (by intro h; cases h)
    | sh => exact h
    | ti => exact h
  | _ => exact h

/-- another place for the right of a slot -/
theorem move_own [LowPred] (hI : Inv w g O H base) {x : Value} {t : Nat} (h : OwnAt g O base x (.slot t)) (d : Loc) :
    ∃ c, O c = .slot t ∧ Inv w g (fun k => if k = c then d else O k) H base ∧ OwnAt g (fun k => if k = c then d else O k) base x d ∧ Hist w g O base PR w g (fun k => if k = c then d else O k) := by
  obtain ⟨c, i, len, cap, ga, e, h1, h2, h3, h4⟩ := h
  have hlt := own_lt hI h4 (by simp)
  refine ⟨c, h4, hI.reown hlt ?_, ⟨c, i, len, cap, ga, e, h1, h2, h3, by simp⟩, ?_⟩
  · intro b ds j dv x _ _ _ _ hc
    rw [h4] at hc; cases hc
  · refine ⟨.refl g, ?_, fun _ _ _ => rfl, fun _ _ => rfl, Nat.le_refl _, rfl, rfl, rfl, fun _ _ cs _ _ h => ⟨cs, h, rfl⟩⟩
    intro k hk
    have : k ≠ c := by rintro rfl; rw [h4] at hk; cases hk
    exact ⟨by simp [this, hk], rfl⟩

theorem look_unown_self (tm : List (Nat × DV)) (x : Nat) : isOwn (look (unown tm x) x) = false := by
  simp only [unown, look_set_self]
  exact isOwn_clean _

theorem look_unown_ne (tm : List (Nat × DV)) {x t : Nat} (h : x ≠ t) : look (unown tm x) t = look tm t := look_set_ne _ _ h

theorem setDst_look_self {tm : List (Nat × DV)} {H : List (List DV)} {t : Nat} {v : DV} : look (setDst ⟨tm, H⟩ (some t) v).tm t = v := look_set_self _ _ _
theorem setDst_look_ne {tm : List (Nat × DV)} {H : List (List DV)} {d : Option Nat} {t : Nat} {v : DV} (h : d ≠ some t) : look (setDst ⟨tm, H⟩ d v).tm t = look tm t := look_setDst h

theorem sim_take [LowPred] {s s' : RSt} {a : Act} {o : Oper} {x : Nat} {y : Option DV} (he : EInv P o (.take x)) (hp : Pre base s a w g O (.take x) tmi)
    (h : y = none ∧ s' = { s with st := setDst { s.st with tm := unown s.st.tm x } o.dst (look s.st.tm x) }) : OpSim P PR base o a w g O y s' := by
  obtain ⟨hy, rfl⟩ := h
  have hr : (execOp a.eval o).run P w = .ok (.value (a.tmps.getD x undef)) w := by
    rcases he with ho | ho <;> simp [execOp, ho, Act.eval]
  have hv : VR g (a.tmps.getD x undef) (look s.st.tm x).clean := by
    have := hp.opr (.tmp x) (.t x) rfl
    rw [hp.agree (.t x) (by simp [dxs])] at this
    exact this
  have hH : (setDst { s.st with tm := unown s.st.tm x } o.dst (look s.st.tm x)).H = s.st.H := setDst_H _ _ _
  by_cases hown : isOwn (look s.st.tm x) = true ∧ ∃ t, o.dst = some t
  · obtain ⟨hown, t, ht⟩ := hown
    obtain ⟨c, hc, hI', hO', hh⟩ := move_own (PR := PR ++ s.L.map (·.2)) hp.inv (hp.own x (by simp [dxs]) hown) (.slot t)
    refine opSim_value hy hr (O' := fun k => if k = c then .slot t else O k) ⟨by rw [hH]; exact hI', hh, ?_, ?_⟩
    · intro t' ht'
      rw [ht] at ht'; cases ht'
      rw [ht, setDst_look_self]
      exact ⟨hv, fun _ => hO'⟩
    · intro c' t' hc' hne ho
      rw [setDst_look_ne hne] at ho
      have hxt : x ≠ t' := by rintro rfl; rw [look_unown_self] at ho; cases ho
      have : c' ≠ c := by rintro rfl; rw [hc] at hc'; cases hc'; exact hxt rfl
      exact ⟨by simp [this, hc'], rfl⟩
  · refine opSim_value hy hr (O' := O) ⟨by rw [hH]; exact hp.inv, .refl _ _ _ _ _, ?_, ?_⟩
    · intro t ht
      rw [ht, setDst_look_self]
      exact ⟨hv, fun ho => absurd ⟨ho, t, ht⟩ hown⟩
    · intro c' t' hc' _ _
      exact ⟨hc', rfl⟩

theorem sim_alloc' [LowPred] {s s' : RSt} {a : Act} {o : Oper} {z : List DV} {y : Option DV} (he : EInv P o (.alloc z)) (hp : Pre base s a w g O (.alloc z) tmi)
    (h : y = none ∧ s' = { s with st := setDst { s.st with H := s.st.H ++ [z] } o.dst (.ptr s.st.H.length 0) }) : OpSim P PR base o a w g O y s' := by
  obtain ⟨hy, rfl⟩ := h
  obtain ⟨t, it, zv, ho, hi, hz, hc⟩ := he
  obtain ⟨hr, hI', hh⟩ := sim_alloc (PR := PR ++ s.L.map (·.2)) (ρ := a.eval) hp.inv ho hi hz hc
  refine opSim_value hy hr (O' := O) ⟨by rw [setDst_H]; exact hI', hh, ?_, ?_⟩
  · intro t ht
    rw [ht, setDst_look_self]
    exact ⟨VR.newPtr hp.inv _, fun h => by cases h⟩
  · intro c' t' hc' _ _
    exact ⟨hc', rfl⟩

theorem clean_cells (d : DV) : d.clean.cells.map DV.clean1 = d.cells.map DV.clean1 := by
  cases d with
  | slice fl wd es => cases fl <;> rfl
  | _ => rfl

theorem rd_cells [LowPred] (tm : List (Nat × DV)) (x : DX) : (rdc tm x).cells.map DV.clean1 = (rd tm x).cells.map DV.clean1 := by
  cases x with
  | t n => exact clean_cells _
  | k v => exact clean_cells _

theorem sim_box' [LowPred] {s s' : RSt} {a : Act} {o : Oper} {x : DX} {y : Option DV} (he : EInv P o (.box x)) (hp : Pre base s a w g O (.box x) tmi)
    (hall : ((rd s.st.tm x).cells.map DV.clean1).all (DV.cellOk s.st.H.length) = true)
    (h : y = none ∧ s' = { s with st := setDst { s.st with H := s.st.H ++ [(rd s.st.tm x).cells.map DV.clean1] } o.dst (.ptr s.st.H.length 0) }) : OpSim P PR base o a w g O y s' := by
  obtain ⟨hy, rfl⟩ := h
  obtain ⟨t, X, ho, hx⟩ := he
  have hv := hp.opr _ _ hx
  rw [hp.agree x (by simp [dxs])] at hv
  rw [← rd_cells] at hall ⊢
  obtain ⟨hr, hI', hh⟩ := sim_box (PR := PR ++ s.L.map (·.2)) (P := P) (ρ := a.eval) hp.inv ho hv hall
  refine opSim_value hy hr (O' := O) ⟨by rw [setDst_H]; exact hI', hh, ?_, ?_⟩
  · intro t ht
    rw [ht, setDst_look_self]
    exact ⟨VR.newPtr hp.inv _, fun h => by cases h⟩
  · intro c' t' hc' _ _
    exact ⟨hc', rfl⟩

theorem sim_panic [LowPred] {s s' : RSt} {a : Act} {o : Oper} {x : DX} {y : Option DV} (he : EInv P o (.panic x)) (hp : Pre base s a w g O (.panic x) tmi)
    (h : ∃ t v, rdc s.st.tm x = .iface t v ∧ y = some (.iface t v) ∧ s' = s) : OpSim P PR base o a w g O y s' := by
  obtain ⟨t, v, hv, rfl, rfl⟩ := h
  obtain ⟨X, ho, hx⟩ := he
  have hv' := hp.opr _ _ hx
  rw [hp.agree x (by simp [dxs]), hv] at hv'
  generalize hX : a.eval X = xv at hv'
  cases hv' with
  | iface _ xv _ hxv =>
    intro next Q _ h2
    have hr : (execOp a.eval o).run P w = .halt (.panic (.iface t xv)) w := by
      simp [execOp, ho, hX, Instr.panic]
    unfold Oper.wp
    rw [hr]
    exact h2 _ rfl _ _ _ _ (.iface t xv v hxv) hp.inv (.refl _ _ _ _ _)

end Go.Zd
namespace Go.Zd

variable {P : Program} {g : Gh} {tmi : List (Nat × DV)} {w : World} {O : Nat → Loc} {H : List (List DV)} {base : Nat} {PR : List Nat}

theorem protects_not {PR : List Nat} {L : List (Nat × Nat)} {b : Nat} (h : protects PR L b = false) : b ∉ PR ++ L.map (·.2) := by
  obtain ⟨h1, h2⟩ := protects_mem h
  intro hb
  rcases List.mem_append.1 hb with h | h
  · exact h1 h
  · obtain ⟨e, he, rfl⟩ := List.mem_map.1 h
    exact h2 e he rfl

theorem own_slice {d : DV} (h : isOwn d = true) : ∃ wd es, d = .slice .own wd es := by
  cases d with
  | slice fl wd es =>
    cases fl with
    | own => exact ⟨wd, es, rfl⟩
    | _ => cases h
  | _ => cases h

theorem sim_store [LowPred] {s s' : RSt} {a : Act} {o : Oper} {n : Nat} {da dx : DX} {tk root : Option Nat} {y : Option DV} (he : EInv P o (.store n da dx tk root)) (hp : Pre base s a w g O (.store n da dx tk root) tmi)
    (h : ∃ st, storeTo s.st PR (lift s.L root) n dx tk (rdc s.st.tm da) = some st ∧ y = none ∧ s' = { st := setDst st o.dst .undef, L := lift s.L root }) : OpSim P PR base o a w g O y s' := by
  obtain ⟨st, hst, hy, rfl⟩ := h
  obtain ⟨t, A, X, ho, hn, hA, hX, htk⟩ := he
  have hva := hp.opr _ _ hA
  rw [hp.agree da (by simp [dxs])] at hva
  have hvx := hp.opr _ _ hX
  rw [hp.agree dx (by simp [dxs])] at hvx
  unfold storeTo at hst
  split at hst
  · rename_i b off hab
    rw [hab] at hva
    split at hst
    · cases hst
    · rename_i hpr
      have hpr' := protects_not (by simpa using hpr)
      generalize hAv : a.eval A = av at hva
      cases hva with
      | ptr _ _ hbn =>
      split at hst
      · -- a value that owns, perhaps
        rename_i tk
        obtain ⟨hXt, hn1⟩ := htk tk rfl
        subst hXt
        cases hX
        split at hst
        · rename_i H' hH'
          cases hst
          obtain ⟨cs, hb, hlen, hle, hok, rfl⟩ := storeDV_some hH'
          have hdv : (look s.st.tm tk).cellOk b = true := by simpa using hok
          have hvr : VR g (a.tmps.getD tk undef) (look s.st.tm tk) := VR.unclean hvx
          have hne : look s.st.tm tk ≠ .undef := by intro e; rw [e] at hdv; cases hdv
          have hcells : (look s.st.tm tk).cells = [look s.st.tm tk] := by
            cases hd : look s.st.tm tk <;> first | rfl | (rw [hd] at hdv; cases hdv)
          have hx := hvr.cells hne
          rw [hcells] at hx
          have key : ∀ O', Inv w g O' s.st.H base → Hist w g O base (PR ++ (lift s.L root).map (·.2)) w g O' → (∀ j d x, [look s.st.tm tk][j]? = some d → (a.tmps.getD tk undef).cells.toList[j]? = some x → isOwn d = true → OwnAt g O' base x (.cell b (off + j))) →
              (∀ c t', O c = .slot t' → tk ≠ t' → O' c = .slot t') →
              OpSim P PR base o a w g O y { st := setDst ⟨unown s.st.tm tk, s.st.H.set b (putAt cs off [look s.st.tm tk])⟩ o.dst .undef, L := lift s.L root } := by
            intro O' hI' hh' hown hkeep
            obtain ⟨old, E, h1, h2, h3, h4⟩ := hI'.storeVar (PR := PR ++ (lift s.L root).map (·.2)) (O' := O') (o := off) hb (by rw [hlen]; exact hle) hx (by simpa using hdv) hpr' (fun c => .inl rfl) hown
            have hr : (execOp a.eval o).run P w = .ok .skip (w.setRow (g.V b) (old.toList.take off ++ (a.tmps.getD tk undef).cells.toList ++ old.toList.drop (off + (a.tmps.getD tk undef).cells.toList.length)).toArray) := by
              have hsz : (a.tmps.getD tk undef).cells.size = n := by
                have := hx.length
                simp only [Array.length_toList, List.length_singleton] at this
                rw [this, hn1]
              have := store_run (P := P) (x := a.tmps.getD tk undef) (n := n) (o := off) h1 hn hsz (hx.oneCell (b := b) (by simpa using hdv)) (by
                have := h2
                simp only [Array.length_toList] at this
                omega)
              have e1 : a.eval (.tmp tk) = a.tmps.getD tk undef := rfl
              simp only [execOp, ho, hAv, e1, Sem.run_bind, this, Result.andThen_ok]
              rfl
            refine opSim_skip hy hr (O' := O') ⟨by rw [setDst_H]; exact h3, hh'.trans h4, ?_, ?_⟩
            · intro t' ht'
              rw [ht', setDst_look_self]
              exact ⟨.undef _, fun h => by cases h⟩
            · intro c' t' hc' hne' ho'
              rw [setDst_look_ne hne'] at ho'
              have hxt : tk ≠ t' := by rintro rfl; rw [look_unown_self] at ho'; cases ho'
              exact ⟨hkeep c' t' hc' hxt, rfl⟩
          cases hown : isOwn (look s.st.tm tk) with
          | true =>
            obtain ⟨c, hc, hI', hO', hh⟩ := move_own (PR := PR ++ (lift s.L root).map (·.2)) hp.inv (hp.own tk (by simp [dxs]) hown) (.cell b off)
            refine key _ hI' hh ?_ ?_
            · intro j d x hj hxj _
              cases j with
              | succ j => simp at hj
              | zero =>
                obtain ⟨c', i', len', cap', ga', e', _⟩ := hp.own tk (by simp [dxs]) hown
                have : x = a.tmps.getD tk undef := by
                  rw [e'] at hxj ⊢
                  simpa [Value.cells] using hxj.symm
                rw [this]
                exact hO'
            · intro c' t' hc' hne'
              have : c' ≠ c := by rintro rfl; rw [hc] at hc'; cases hc'; exact hne' rfl
              simp [this, hc']
          | false =>
            refine key O hp.inv (.refl _ _ _ _ _) ?_ (fun _ _ h _ => h)
            intro j d x hj _ hd
            cases j with
            | succ j => simp at hj
            | zero => simp at hj; subst hj; rw [hown] at hd; cases hd
        · cases hst
      · -- no right moves
        split at hst
        · rename_i H' hH'
          cases hst
          obtain ⟨cs, hb, hlen, hle, hok, rfl⟩ := storeDV_some hH'
          rw [← rd_cells] at hok hlen ⊢
          have hne : rdc s.st.tm dx ≠ .undef := by intro e; rw [e] at hok; simp [DV.cells, DV.clean1, DV.cellOk] at hok
          have hx := (hvx.cells hne).map_clean
          obtain ⟨old, E, h1, h2, h3, h4⟩ := hp.inv.storeVar (PR := PR ++ (lift s.L root).map (·.2)) (O' := O) (o := off) hb (by rw [hlen]; exact hle) hx hok hpr' (fun c => .inl rfl) (by
            intro j d x hj _ hd
            obtain ⟨e, _, rfl⟩ := List.mem_map.1 (List.mem_of_getElem? hj)
            rw [isOwn_clean1] at hd; cases hd)
          have hsz : (a.eval X).cells.size = n := by
            have := hx.length
            simp only [Array.length_toList] at this
            rw [this, hlen]
          have hr : (execOp a.eval o).run P w = .ok .skip (w.setRow (g.V b) (old.toList.take off ++ (a.eval X).cells.toList ++ old.toList.drop (off + (a.eval X).cells.toList.length)).toArray) := by
            have := store_run (P := P) (x := a.eval X) (n := n) (o := off) h1 hn hsz (hx.oneCell (b := b) hok) (by
              have := h2
              simp only [Array.length_toList] at this
              omega)
            simp only [execOp, ho, hAv, Sem.run_bind, this, Result.andThen_ok]
            rfl
          refine opSim_skip hy hr (O' := O) ⟨by rw [setDst_H]; exact h3, h4, ?_, ?_⟩
          · intro t' ht'
            rw [ht', setDst_look_self]
            exact ⟨.undef _, fun h => by cases h⟩
          · intro c' t' hc' _ _
            exact ⟨hc', rfl⟩
        · cases hst
  · cases hst

end Go.Zd
