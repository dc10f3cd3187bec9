/- Regions that draw their order and change the world. -/
import Derived.Test.YtchjcjocihckpaaGx
import Derived.RegionTactic
namespace Go.Proofs.Ytchjcjocihckpaa.G
open Go Go.RowKit
/-! A region that draws its order and whose operations change the world: what yields a value wherever 'S' holds is taken first, the others come up one by one. -/
def mk (n m : Nat) : Array Bool := (List.range n).map (fun i => m.testBit i) |>.toArray
structure DW (P : Program) (n : Nat) (ops : Array Oper) (Q : Exit → Env → World → Prop) (S : World → Prop) (fuel : Nat) (m : Nat) (f : Env) (w : World) : Prop where
  out : ∀ a, FM n f a → wpAnyH P .any ops (lift n Q) S fuel (mk ops.size m) a w
/-- Number i may be taken first, and then m' is done. -/
def chkT (ops : Array Oper) (m i m' : Nat) : Bool :=
  Region.noSelect ops && Region.free .any ops (mk ops.size m) i && (Region.ready .any ops (mk ops.size m)).contains i && ((mk ops.size m).setIfInBounds i true == mk ops.size m')
/-- Number i alone may come up. -/
def chkL (ops : Array Oper) (m i m' : Nat) : Bool :=
  (Region.ready .any ops (mk ops.size m) == [i]) && ((mk ops.size m).setIfInBounds i true == mk ops.size m')
section
variable {P : Program} {n : Nat} {Q : Exit → Env → World → Prop} {f : Env} {w : World} {ops : Array Oper} {S : World → Prop} {fuel m : Nat} {o : Oper} {v : Value}
theorem cw_dw {id : Nat} (hm : P.follows .mixedOrders = true) (h : ∀ wd : World, wd = w.drew → DW P n ops Q S ops.size 0 f wd) : CW none P n (.region id ops true) Q f w :=
  ⟨fun a ha => wpIn_wide.2 (wp_region_held hm (by
    have h0 := (h _ rfl).out a ha
    have e : mk ops.size 0 = Array.replicate ops.size false := by
      apply Array.ext'
      simp [mk, List.map_const']
    rw [e] at h0
    exact h0))⟩
theorem dw_first {i m' : Nat} (hi : ops[i]? = some o) (hc : chkT ops m i m' = true) (hS : S w)
    (hy : ∀ a, FM n f a → YieldsIf P ops S o v a) (h : DW P n ops Q S fuel m' (updo f o.dst v) w) : DW P n ops Q S (fuel + 1) m f w := by
  simp only [chkT, Bool.and_eq_true, beq_iff_eq] at hc
  obtain ⟨⟨⟨h1, h2⟩, h3⟩, h4⟩ := hc
  exact ⟨fun a ha => wpAnyH_take hi h1 h2 h3 (fun _ _ _ hp => hp) (hy a ha) hS (by rw [h4]; exact h.out _ (ha.put _ _))⟩
theorem dw_t (i m' : Nat) (hi : ops[i]? = some o) (hc : chkT ops m i m' = true) (hg : o.guard = none) (hS : S w) (hr : ∀ w, S w → RV P n f w o v) (h : DW P n ops Q S fuel m' (updo f o.dst v) w) : DW P n ops Q S (fuel + 1) m f w :=
  dw_first hi hc hS (fun a ha => .inl ⟨by simp [Region.wanted, hg], fun w hw => by rw [show a.eval = evn n f from funext ha.ev]; exact hr w hw⟩) h
theorem dw_tg (i m' : Nat) {j t : Nat} {b c : Bool} (hi : ops[i]? = some o) (hc : chkT ops m i m' = true) (hg : o.guard = some (j, c)) (hj : (ops[j]?).bind (·.dst) = some t) (hb : evn n f (.tmp t) = .bool b) (hbc : b = c) (hS : S w) (hr : ∀ w, S w → RV P n f w o v)
    (h : DW P n ops Q S fuel m' (updo f o.dst v) w) : DW P n ops Q S (fuel + 1) m f w :=
  dw_first hi hc hS (fun a ha => .inl ⟨by simp [Region.wanted, hg, yl ha hj hb, hbc], fun w hw => by rw [show a.eval = evn n f from funext ha.ev]; exact hr w hw⟩) h
theorem dw_no (i m' : Nat) {j t : Nat} {b c : Bool} (hi : ops[i]? = some o) (hc : chkT ops m i m' = true) (hg : o.guard = some (j, c)) (hj : (ops[j]?).bind (·.dst) = some t) (hb : evn n f (.tmp t) = .bool b) (hbc : b = !c) (hS : S w)
    (h : DW P n ops Q S fuel m' (updo f o.dst undef) w) : DW P n ops Q S (fuel + 1) m f w :=
  dw_first hi hc hS (fun a ha => .inr ⟨by simp [Region.wanted, hg, yl ha hj hb, hbc], rfl⟩) h
theorem dw_nu (i m' : Nat) {j t : Nat} {c : Bool} (hi : ops[i]? = some o) (hc : chkT ops m i m' = true) (hg : o.guard = some (j, c)) (hj : (ops[j]?).bind (·.dst) = some t) (hb : evn n f (.tmp t) = undef) (hS : S w)
    (h : DW P n ops Q S fuel m' (updo f o.dst undef) w) : DW P n ops Q S (fuel + 1) m f w :=
  dw_first hi hc hS (fun a ha => .inr ⟨by simp [Region.wanted, hg, yu ha hj hb], rfl⟩) h
theorem dw_l (i m' : Nat) (hi : ops[i]? = some o) (hc : chkL ops m i m' = true) (hg : o.guard = none) (h : OK P n o f w (fun f' w' => S w' ∧ DW P n ops Q S fuel m' f' w')) : DW P n ops Q S (fuel + 1) m f w := by
  simp only [chkL, Bool.and_eq_true, beq_iff_eq] at hc
  refine ⟨fun a ha => wpAnyH_all hc.1 (by simp) fun j hj => ?_⟩
  obtain rfl : j = i := by simpa using hj
  rw [hc.2]
  exact wpOp_step hi fun K hK => by
    rw [if_pos (by simp [Region.wanted, hg])]
    exact h.wp a ha _ _ fun a' f' w' ha' hs => hK _ _ ⟨hs.1, hs.2.out a' ha'⟩
theorem dw_lg (i m' : Nat) {j t : Nat} {b c : Bool} (hi : ops[i]? = some o) (hc : chkL ops m i m' = true) (hg : o.guard = some (j, c)) (hj : (ops[j]?).bind (·.dst) = some t) (hb : evn n f (.tmp t) = .bool b) (hbc : b = c)
    (h : OK P n o f w (fun f' w' => S w' ∧ DW P n ops Q S fuel m' f' w')) : DW P n ops Q S (fuel + 1) m f w := by
  simp only [chkL, Bool.and_eq_true, beq_iff_eq] at hc
  refine ⟨fun a ha => wpAnyH_all hc.1 (by simp) fun q hq => ?_⟩
  obtain rfl : q = i := by simpa using hq
  rw [hc.2]
  exact wpOp_step hi fun K hK => by
    rw [if_pos (by simp [Region.wanted, hg, yl ha hj hb, hbc])]
    exact h.wp a ha _ _ fun a' f' w' ha' hs => hK _ _ ⟨hs.1, hs.2.out a' ha'⟩
/-- Either of two may come up. -/
theorem dw_two (i j m1 m2 : Nat) {o1 o2 : Oper} (hi : ops[i]? = some o1) (hj : ops[j]? = some o2) (hc : ((Region.ready .any ops (mk ops.size m) == [i, j]) && ((mk ops.size m).setIfInBounds i true == mk ops.size m1) && ((mk ops.size m).setIfInBounds j true == mk ops.size m2)) = true)
    (hg1 : o1.guard = none) (hg2 : o2.guard = none) (h1 : OK P n o1 f w (fun f' w' => S w' ∧ DW P n ops Q S fuel m1 f' w')) (h2 : OK P n o2 f w (fun f' w' => S w' ∧ DW P n ops Q S fuel m2 f' w')) : DW P n ops Q S (fuel + 1) m f w := by
  simp only [Bool.and_eq_true, beq_iff_eq] at hc
  refine ⟨fun a ha => wpAnyH_all hc.1.1 (by simp) fun q hq => ?_⟩
  have hq : q = i ∨ q = j := by simpa using hq
  rcases hq with rfl | rfl
  · rw [hc.1.2]
    exact wpOp_step hi fun K hK => by
      rw [if_pos (by simp [Region.wanted, hg1])]
      exact h1.wp a ha _ _ fun a' f' w' ha' hs => hK _ _ ⟨hs.1, hs.2.out a' ha'⟩
  · rw [hc.2]
    exact wpOp_step hj fun K hK => by
      rw [if_pos (by simp [Region.wanted, hg2])]
      exact h2.wp a ha _ _ fun a' f' w' ha' hs => hK _ _ ⟨hs.1, hs.2.out a' ha'⟩
theorem dw_d (hc : (Region.ready .any ops (mk ops.size m)).isEmpty = true) (h : Q .normal f w) : DW P n ops Q S fuel m f w :=
  ⟨fun a ha => wpAnyH_done (by simpa using hc) ⟨f, ha, h⟩ fuel⟩
theorem nt {b : Bool} (h : b = true) : (!b) = false := by rw [h]; rfl
theorem nf {b : Bool} (h : b = false) : (!b) = true := by rw [h]; rfl
theorem bcases (b : Bool) {p : Prop} (h1 : b = true → p) (h2 : b = false → p) : p := by cases b; exact h2 rfl; exact h1 rfl
theorem sto_chg {b o : Nat} {vs : List Value} {w w1 : World} (h : w1 = setCells w b o vs) : Chg (fun c => c = b) w w1 := by subst h; exact chg_sets b vs w o
theorem sto_blk {b o : Nat} {vs : List Value} {w w1 : World} {cs cs' : Array Value} {t : TypeId} {fr : Nat × Nat} (h : w1 = setCells w b o vs) (hb : w.heap[b]? = some (.cells cs t fr)) (he : setRow cs o vs = cs' := by rfl) : w1.heap[b]? = some (.cells cs' t fr) := by subst h; subst he; exact blk_sets vs o hb
theorem Chg.pre {S : Nat → Prop} {w w1 w2 : World} (h : Ext w w1) (k : Chg S w1 w2) : Chg S w w2 := h.trans k (fun _ _ h => h.elim) (fun _ _ h => h)
theorem rt {t : Tmp} {v : Value} (h : evn n f (.tmp t) = v) : RV1 P n f w (.tmp t) v := h
theorem rc1 {t : Tmp} {ty : TypeId} {u : TypeDesc} {a : Addr} {v : Value} (hu : P.underlying ty = some u) (ha : aggT u = false) (hx : evn n f (.tmp t) = .pointer (some a)) (hc : w.cell? a = some v) : RV1 P n f w (.cell t ty) v :=
  ⟨a, hx, by simp only [loadVar]; simp [run_isAgg hu, ha, hc]⟩
theorem Ext.of_drew {w wd : World} (h : wd = w.drew) : Ext w wd := by subst h; exact Ext.drew w
end
end Go.Proofs.Ytchjcjocihckpaa.G
