/- Contracts: a table that is right; the document's table. -/
import Derived.Test.YtcgeeddhneopfaaHi
namespace Go.Proofs.Ytcgeeddhneopfaa.G
open Go Go.RowKit
section
variable {w w1 : World}
theorem k_table_wrong_ok {a t : BA} {n : Int} {R : Int → World → Prop} (h1 : t.size ≠ 0) (h2 : 1 ≤ n) (h3 : t.size ≤ 65536) (h4 : bless t a = false) (h5 : t ≠ a) (h : ∀ w', Ext w w' → R 0 w') :
    Calls PP n_table_wrong #[.string a, .agg #[.string t, .int .i64 n]] w fun e w' => ∃ r : Int, e = .returned (.int .i64 r) ∧ R r w' := by
  refine vc_table_wrong ?_
  unfold VC_table_wrong
  intro c w1 hP
  refine ⟨fun j w' => w' = w1 ∧ j = false, ?_, fun e => absurd e (size_ne.2 h1), fun _ => ⟨rfl, decide_eq_false (by omega)⟩⟩
  rintro j w' ⟨rfl, rfl⟩
  refine ⟨fun h => (nomatch h), fun _ => ⟨fun h => by omega, fun _ => ⟨fun h => ?_, fun _ => h w' hP.ext⟩⟩⟩
  rw [h4, decide_eq_false h5] at h; cases h
theorem k_table_Check_ok {s : Sl} {l : List Wd} {R : Int → Int → World → Prop} (hx : Rows w 2 wdE s l) (hlen : l.length ≤ 1099511627776) (hs : Srt (l.map (·.1)))
    (hp : ∀ x ∈ l, x.1.size ≠ 0 ∧ 1 ≤ x.2 ∧ x.2 ≤ 9223372036854775807 ∧ x.1.size ≤ 65536 ∧ wgt x ≤ 9223372036854775807) (hw : sumZ (l.map wgt) ≤ 9223372036854775807) (h : ∀ w', Ext w w' → R (-1) 0 w') :
    Calls PP n_table_Check #[s.v] w fun e w' => ∃ (r : Int) (q : Int), e = .returned (.tuple #[.int .i64 r, .int .i64 q]) ∧ R r q w' := by
  refine vc_table_Check ?_
  unfold VC_table_Check
  have l1 := hx.len
  refine ⟨fun a i w' => ∃ k : Nat, i = k ∧ k ≤ l.length ∧ Ext w w' ∧ ∀ y, l[k]? = some y → bless y.1 a = false ∧ y.1 ≠ a, fun _ i _ => (l.length - i).toNat, ⟨0, rfl, by omega, Chg.refl w, fun y hy => ?_⟩, ?_⟩
  · have := (hp y (gm hy)).1
    refine ⟨?_, size_ne.2 this⟩
    show Op.bytesLess _ [] = false
    cases y.1.data.toList <;> rfl
  · rintro a _ w2 ⟨k, rfl, hk, x2, ha⟩
    refine ⟨fun hl => ?_, fun hl => ?_⟩
    · obtain ⟨g, o, u, hg, hu, hc, hc2⟩ := (hx.ext x2).wd (i := k) (by omega)
      obtain ⟨p1, p2, p3, p4, p5⟩ := hp u (gm hu)
      obtain ⟨q1, q2⟩ := ha u hu
      refine ⟨k, rfl, by omega, g, o, hg, u.1, u.2, ⟨hc, hc2, trivial⟩, fun c w3 hP w4 x4 => k_table_wrong_ok p1 p2 p4 q1 q2 fun w5 x5 => ⟨x5.keep (Nat.lt_of_lt_of_le hP.lt x4.size), fun h => absurd rfl h, fun _ => ⟨k + 1, (wr64 (by omega)).symm, ⟨k + 1, by simp, by omega, (x2.tr (hP.then x4)).tr x5, fun y hy => ?_⟩, by dsimp only; omega⟩⟩⟩
      have hj := gl hy
      have : bless u.1 y.1 = true := by
        have := List.pairwise_iff_getElem.1 hs k (k + 1) (by simp; omega) (by simp; omega) (by omega)
        rw [List.getElem_map, List.getElem_map] at this
        rw [List.getElem?_eq_getElem hj] at hy
        rw [List.getElem?_eq_getElem (by omega)] at hu
        rw [← Option.some.inj hy, ← Option.some.inj hu]; exact this
      exact ⟨bless_asym this, fun e => bless_ne this e.symm⟩
    · exact k_table_Weight (hx.ext x2) hlen (fun x hx => by have := hp x hx; exact ⟨by omega, this.2.2.1, by omega, this.2.2.2.2⟩) hw fun w3 x3 => ⟨fun _ => h w3 (x2.tr x3), fun h => nomatch h⟩
theorem cntW_cons (x : Wd) (l : List Wd) (t : BA) : cntW (x :: l) t = if x.1 = t then x.2 else cntW l t := by
  unfold cntW
  rw [List.find?_cons]
  by_cases h : x.1 = t
  · simp [h]
  · simp [h]
theorem k_ref07_Count {s : Sl} {l : List Wd} {t : BA} {R : Int → World → Prop} (hx : Rows w 2 wdE s l) (h : R (cntW l t) w) :
    Calls PP n_ref07_Count #[s.v, .string t] w fun e w' => ∃ r : Int, e = .returned (.int .i64 r) ∧ R r w' := by
  refine vc_ref07_Count ?_
  unfold VC_ref07_Count
  have l1 := hx.len
  have l3 := hx.lim
  refine ⟨fun i w' => ∃ k : Nat, i = k ∧ k ≤ l.length ∧ w' = w ∧ cntW l t = cntW (l.drop k) t, fun i _ => (l.length - i).toNat, ⟨0, rfl, by omega, rfl, rfl⟩, ?_⟩
  rintro _ w2 ⟨k, rfl, hk, rfl, hd⟩
  refine ⟨fun hl => ?_, fun hl => ?_⟩
  · obtain ⟨g, o, u, hg, hu, hc, hc2⟩ := hx.wd (i := k) (by omega)
    have hk' := gl hu
    have hdr : l.drop k = u :: l.drop (k + 1) := by
      rw [List.drop_eq_getElem_cons hk']; rw [List.getElem?_eq_getElem hk'] at hu; cases hu; rfl
    rw [hdr, cntW_cons] at hd
    refine ⟨k, rfl, by omega, g, o, hg, u.1, hc, fun e => ⟨u.2, hc2, ?_⟩, fun e => ⟨k + 1, (wr64 (by omega)).symm, ⟨k + 1, by simp, by omega, rfl, by rw [hd, if_neg e]⟩, by dsimp only; omega⟩⟩
    rw [hd, if_pos e] at h; exact h
  · rw [List.drop_eq_nil_of_le (by omega)] at hd
    rw [hd] at h; exact h
theorem k_ref07_Add {s : Sl} {l : List Wd} {t : BA} {R : Sl → Int → World → Prop} (hx : Rows w 2 wdE s l) (hlen : l.length ≤ 1048576) (ht : t.size ≠ 0) (hsz : ∀ x ∈ l, x.1.size ≤ 1099511627776) (hc0 : 0 ≤ cntW l t) (hc1 : cntW l t ≤ 1099511627776)
    (h : ∀ r w', Ext w w' → OwnL w' t_api_Word 2 wdE r (setW t (cntW l t + 1) l false) → (∀ c, r.blk = some c → w.heap.size ≤ c) → R r 0 w') :
    Calls PP n_ref07_Add #[s.v, .string t, .int .i64 1] w fun e w' => ∃ (r : Sl) (q : Int), e = .returned (.tuple #[r.v, .int .i64 q]) ∧ R r q w' := by
  refine vc_ref07_Add ?_
  unfold VC_ref07_Add
  have l1 := hx.len
  refine ⟨fun j w' => w' = w ∧ j = false, ?_, fun e => absurd e (size_ne.2 ht), fun _ => ⟨rfl, rfl⟩⟩
  rintro j w' ⟨rfl, rfl⟩
  refine ⟨fun h => (nomatch h), fun _ => k_ref07_Count hx (k_ref06_Add ⟨by omega, by omega⟩ ⟨by omega, by omega⟩ ?_)⟩
  rw [addS_ok (by omega)]
  refine ⟨fun _ => ?_, fun h => (nomatch h)⟩
  refine ⟨fun r d i w2 => ∃ (k : Nat) (acc : List Wd), i = k ∧ k ≤ l.length ∧ Ext w' w2 ∧ acc ++ setW t (cntW l t + 1) (l.drop k) d = setW t (cntW l t + 1) l false ∧ acc.length ≤ 2 * k ∧ OwnL w2 t_api_Word 2 wdE r acc ∧ (∀ c, r.blk = some c → w'.heap.size ≤ c), fun _ _ i _ => (l.length - i).toNat,
    ⟨0, [], rfl, by omega, Chg.refl w', by rw [List.nil_append, List.drop_zero], by simp, OwnL.nil, fun c hc => (nomatch hc)⟩, ?_⟩
  rintro r d _ w2 ⟨k, acc, rfl, hk, x2, hacc, hal, ho, hf⟩
  have hn := ho.len wdE_len (by decide)
  refine ⟨fun hlt => ?_, fun hlt => ?_⟩
  · obtain ⟨g, o, u, hg, hu, hc, hc2⟩ := (hx.ext x2).wd (i := k) (by omega)
    have hk' := gl hu
    have hsu := hsz u (gm hu)
    have hdr : l.drop k = u :: l.drop (k + 1) := by
      rw [List.drop_eq_getElem_cons hk']; rw [List.getElem?_eq_getElem hk'] at hu; cases hu; rfl
    rw [hdr, setW] at hacc
    refine ⟨fun r2 d2 w3 => Ext w' w3 ∧ d2 = (d || !bless u.1 t) ∧ OwnL w3 t_api_Word 2 wdE r2 (acc ++ if d then [] else if bless u.1 t then [] else [(t, cntW l t + 1)]) ∧ (∀ c, r2.blk = some c → w'.heap.size ≤ c), ?_,
      fun j w3 => Ext w2 w3 ∧ j = (!d && !bless u.1 t), ?_, fun hd => ⟨Chg.refl _, by rw [hd]; rfl⟩, fun hd => ?_⟩
    · rintro r2 d2 w3 ⟨x3, rfl, ho2, hf2⟩
      have hn2 := ho2.len wdE_len (by decide)
      have hle : (if d = true then [] else if bless u.1 t = true then [] else [(t, cntW l t + 1)]).length ≤ 1 := by
        split
        · simp
        · split <;> simp
      rw [List.length_append] at hn2
      obtain ⟨g', o', u', hg', hu', he, he2⟩ := (hx.ext x3).wd (i := k) (by omega)
      rw [hg] at hg'; cases hg'
      rw [hu] at hu'; cases hu'
      refine ⟨k, rfl, by omega, g, o, hg, u.1, he, fun hne => ⟨u.1, u.2, ⟨he, he2, trivial⟩, _, ho2, ⟨by omega, by show _ ≤ 9223372036854775807; omega⟩, fun r3 w4 hA => ⟨k + 1, (wr64 (by omega)).symm, ⟨k + 1, _, by simp, by omega, ?_, ?_, ?_, hA.ownL (x := u), ?_⟩, by dsimp only; omega⟩⟩, fun he => ⟨k + 1, (wr64 (by omega)).symm, ⟨k + 1, _, by simp, by omega, x3, ?_, ?_, ho2, hf2⟩, by dsimp only; omega⟩⟩
      · exact Chg.of_new x3 hA.chg fun c hc => hf2 c hc
      · rw [← hacc, if_neg hne]; simp
      · simp only [List.length_append, List.length_singleton]; omega
      · intro c hc
        rcases hA.lt hc with h | h
        · exact hf2 c h
        · exact Nat.le_trans x3.size h
      · rw [← hacc, if_pos (Decidable.not_not.1 he)]; simp
      · rw [List.length_append]; omega
    · rintro j w3 ⟨x3, rfl⟩
      refine ⟨fun hj => ⟨_, ho.ext x3, ⟨by omega, by show _ ≤ 9223372036854775807; omega⟩, fun r2 w4 hA => ⟨Chg.of_new (x2.tr x3) hA.chg fun c hc => hf c hc, ?_, ?_, ?_⟩⟩, fun hj => ⟨x2.tr x3, ?_, ?_, hf⟩⟩
      · rw [Bool.and_eq_true, Bool.not_eq_true', Bool.not_eq_true'] at hj; rw [hj.1, hj.2]; rfl
      · rw [Bool.and_eq_true, Bool.not_eq_true', Bool.not_eq_true'] at hj
        rw [hj.1, hj.2]
        exact hA.ownL (x := ((t, cntW l t + 1) : Wd))
      · intro c hc
        rcases hA.lt hc with h | h
        · exact hf c h
        · exact Nat.le_trans (x2.tr x3).size h
      · cases d <;> cases e : bless u.1 t <;> simp_all
      · have : (if d = true then [] else if bless u.1 t = true then [] else [(t, cntW l t + 1)]) = [] := by
          cases d <;> cases e : bless u.1 t <;> simp_all
        rw [this, List.append_nil]; exact ho.ext x3
    · refine ⟨k, rfl, by omega, g, o, hg, u.1, hc, k_ref01_Less (by omega) fun w3 x3 => ⟨x3, by rw [hd]; rfl⟩⟩
  · rw [List.drop_eq_nil_of_le (by omega), setW] at hacc
    refine ⟨fun hd => ?_, fun hd => ⟨_, ho, ⟨by omega, by show _ ≤ 9223372036854775807; omega⟩, fun r2 w3 hA => ?_⟩⟩
    · rw [if_pos hd, List.append_nil] at hacc
      exact h r w2 x2 (hacc ▸ ho) hf
    · rw [if_neg (by rw [hd]; decide)] at hacc
      refine h r2 w3 (Chg.of_new x2 hA.chg fun c hc => hf c hc) (hacc ▸ hA.ownL (x := ((t, cntW l t + 1) : Wd))) fun c hc => ?_
      rcases hA.lt hc with h | h
      · exact hf c h
      · exact Nat.le_trans x2.size h
theorem Tb.len {ws : List BA} {l : List Wd} (h : Tb ws l) : l.length ≤ ws.length := by
  have h1 : (l.map (·.1)).Nodup := h.srt.imp fun h => bless_ne h
  have := sub_len h1 fun t ht => (h.mem t).1 ht
  rwa [List.length_map] at this
theorem k_ref07_Of {s : Sl} {ts : List BA} {R : Sl → World → Prop} (hx : Rows w 1 strE s ts) (hlen : ts.length ≤ 1048576) (hsz : ∀ t ∈ ts, t.size ≠ 0 ∧ t.size ≤ 1099511627776)
    (h : ∀ r w' l, Ext w w' → OwnL w' t_api_Word 2 wdE r l → Tb ts l → R r w') :
    Calls PP n_ref07_Of #[s.v] w fun e w' => ∃ r : Sl, e = .returned r.v ∧ R r w' := by
  refine vc_ref07_Of ?_
  unfold VC_ref07_Of
  have l1 := hx.len
  refine ⟨fun r i w' => ∃ (k : Nat) (l : List Wd), i = k ∧ k ≤ ts.length ∧ Ext w w' ∧ OwnL w' t_api_Word 2 wdE r l ∧ Tb (ts.take k) l, fun _ i _ => (ts.length - i).toNat, ⟨0, [], rfl, by omega, Chg.refl w, OwnL.nil, Tb.nil⟩, ?_⟩
  rintro r _ w1 ⟨k, l, rfl, hk, x1, ho, htb⟩
  refine ⟨fun hlt => ?_, fun hlt => ?_⟩
  · obtain ⟨g, o, u, hg, hu, hc⟩ := (hx.ext x1).str (i := k) (by omega)
    have hl := htb.len
    rw [List.length_take] at hl
    have hcw := htb.ctW u
    have hcl := cnt_le (ts.take k) u
    rw [List.length_take] at hcl
    refine ⟨k, rfl, by omega, g, o, hg, u, hc, k_ref07_Add (ho.rows wdE_len (by decide)) (by omega) (hsz u (gm hu)).1 (fun x hx => ?_) (by omega) (by omega) fun r2 w2 x2 ho2 hf2 => ⟨k + 1, (wr64 (by omega)).symm, ⟨k + 1, _, by simp, by omega, x1.tr x2, ho2, ?_⟩, by dsimp only; omega⟩⟩
    · have := (htb.mem x.1).1 (List.mem_map.2 ⟨x, hx, rfl⟩)
      exact (hsz _ (List.mem_of_mem_take this)).2
    · rw [tk hu]; exact htb.set u
  · rw [List.take_of_length_le (by omega)] at htb
    exact h r w1 l x1 ho htb
theorem k_ref07_Same {s t : Sl} {xs ys : List Wd} {R : Bool → World → Prop} (hx : Rows w 2 wdE s xs) (hy : Rows w 2 wdE t ys) (h : ∀ w', Ext w w' → R (decide (xs = ys)) w') :
    Calls PP n_ref07_Same #[s.v, t.v] w fun e w' => ∃ r : Bool, e = .returned (.bool r) ∧ R r w' := by
  refine vc_ref07_Same ?_
  unfold VC_ref07_Same
  have l1 := hx.len
  have l2 := hy.len
  have l3 := hx.lim
  refine ⟨fun hn => ?_, fun hn => ?_⟩
  · have : decide (xs = ys) = false := decide_eq_false fun e => hn (by rw [l1, l2, e])
    exact this ▸ h w (Chg.refl w)
  · refine ⟨fun l w' => ∃ k : Nat, l = k ∧ k ≤ xs.length ∧ Ext w w' ∧ xs.take k = ys.take k, fun l _ => (xs.length - l).toNat, ⟨0, rfl, by omega, Chg.refl w, by simp⟩, ?_⟩
    rintro _ w' ⟨k, rfl, hk, x, ht⟩
    refine ⟨fun hl => ?_, fun hl => ?_⟩
    · obtain ⟨b, o, u, hb, hu, hc, hc2⟩ := (hx.ext x).wd (i := k) (by omega)
      obtain ⟨b', o', v, hb', hv, hc', hc2'⟩ := (hy.ext x).wd (i := k) (by omega)
      refine ⟨k, rfl, by omega, b, o, hb, u.1, u.2, ⟨hc, hc2, trivial⟩, by omega, b', o', hb', v.1, v.2, ⟨hc', hc2', trivial⟩, fun he => ⟨k + 1, (wr64 (by omega)).symm, fun w2 x2 => ⟨⟨k + 1, by simp, by omega, x.tr x2, ?_⟩, by dsimp only; omega⟩⟩, fun hne w2 x2 => ?_⟩
      · rw [tk hu, tk hv, ht, Prod.ext he.1 he.2]
      · have : decide (xs = ys) = false := decide_eq_false fun e => hne (by rw [e, hv] at hu; cases hu; exact ⟨rfl, rfl⟩)
        exact this ▸ h w2 (x.tr x2)
    · have : decide (xs = ys) = true := decide_eq_true (by rw [← List.take_of_length_le (l := xs) (i := k) (by omega), ht, List.take_of_length_le (by omega)])
      exact this ▸ h w' x
end
end Go.Proofs.Ytcgeeddhneopfaa.G
