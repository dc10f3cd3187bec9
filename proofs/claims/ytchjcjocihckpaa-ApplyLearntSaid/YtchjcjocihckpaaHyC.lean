/- Contracts: what a coder makes of a table of words. -/
import Derived.Test.YtchjcjocihckpaaHxC
namespace Go.Proofs.Ytchjcjocihckpaa.G
open Go Go.RowKit
/-- How many symbols a table's words make, by the document. -/
def cntD (ms : List Mg) (ds : List Wd) : Int × Bool := dotF 0 ((ds.map (·.2)).zip (ds.map fun d => (((splitT ms d.1).length : Nat) : Int)))
theorem lenOf {js : List Jd} {ms : List Mg} {l : List Int} {t : BA} (h : txs js l = splitT ms t) : l.length = (splitT ms t).length := by rw [← h]; simp [txs]
section
variable {w w1 : World} {b : Nat} {js : List Jd} {ms : List Mg}
theorem k_apply_Count_none {s : Sl} {R : Int → Bool → World → Prop} (h : R 0 false w) :
    Calls PP n_apply_Coder_Count #[.pointer none, s.v] w fun e w' => ∃ (r : Int) (q : Bool), e = .returned (.tuple #[.int .i64 r, .bool q]) ∧ R r q w' := by
  refine vc_apply_Coder_Count ?_
  unfold VC_apply_Coder_Count
  exact ⟨fun _ => h, fun h => absurd rfl h⟩
/-- One more number behind two rows of numbers. -/
theorem two_app {w2 w3 : World} {c l c' : Sl} {xs ys : List Int} {v : Int} (ho : OwnL w2 t_int 1 intE c xs) (hp : OwnL w2 t_int 1 intE l ys) (hn : ∀ x, c.blk = some x → l.blk ≠ some x) (hA : App w2 t_int 1 c (xs.flatMap intE) 1 [.int .i64 v] c' w3) :
    OwnL w3 t_int 1 intE c' (xs ++ [v]) ∧ OwnL w3 t_int 1 intE l ys ∧ ∀ x, c'.blk = some x → l.blk ≠ some x := by
  refine ⟨hA.ownL, hp.chg hA.chg fun x hx hc => hn x hc hx, fun x hx e => ?_⟩
  rcases hA.lt hx with h | h
  · exact hn x h e
  · have := hp.lt e; omega
theorem k_apply_Count {s : Sl} {ds : List Wd} {R : Int → Bool → World → Prop} (hC : Cdr w b ms js) (hx : Rows w 2 wdE s ds) (hi : ∀ d ∈ ds, I64 d.2) (hz : ∀ d ∈ ds, d.1.size ≤ 100) (hlen : ds.length ≤ 1099511627776) (hms : ms.length ≤ 1099511627776)
    (h : ∀ w', Ext w w' → R (cntD ms ds).1 (cntD ms ds).2 w') :
    Calls PP n_apply_Coder_Count #[.pointer (some ⟨b, 0, none⟩), s.v] w fun e w' => ∃ (r : Int) (q : Bool), e = .returned (.tuple #[.int .i64 r, .bool q]) ∧ R r q w' := by
  refine vc_apply_Coder_Count ?_
  unfold VC_apply_Coder_Count
  refine ⟨fun h => (nomatch h), fun _ => ?_⟩
  have l1 := hx.len
  have l3 := hx.lim
  have hmax : maxLen = 9223372036854775807 := rfl
  refine ⟨fun c l i W => ∃ k : Nat, i = k ∧ k ≤ ds.length ∧ Ext w W ∧ OwnL W t_int 1 intE c ((ds.take k).map (·.2)) ∧ OwnL W t_int 1 intE l ((ds.take k).map fun d => (((splitT ms d.1).length : Nat) : Int)) ∧ (∀ x, c.blk = some x → w.heap.size ≤ x) ∧ (∀ x, l.blk = some x → w.heap.size ≤ x) ∧ ∀ x, c.blk = some x → l.blk ≠ some x, fun _ _ i _ => (ds.length - i).toNat,
    ⟨0, rfl, by omega, Chg.refl w, OwnL.nil, OwnL.nil, fun c hc => (nomatch hc), fun c hc => (nomatch hc), fun c hc => (nomatch hc)⟩, ?_⟩
  rintro c l _ W ⟨k, rfl, hk, X, ho, hp, hfc, hfl, hn⟩
  have hcn := ho.len intE_len (by decide)
  have hln := hp.len intE_len (by decide)
  rw [List.length_map, List.length_take] at hcn hln
  refine ⟨fun hl => ?_, fun hl => ?_⟩
  · obtain ⟨g, o, q, hg, hq, hc1, hc2⟩ := (hx.ext X).wd (i := k) (by omega)
    have hqz := hz q (gm hq)
    refine ⟨k, rfl, by omega, g, o, hg, q.1, q.2, ⟨hc1, hc2, trivial⟩, fun b19 w20 hP w23 c23 w25 x25 b27 w28 nb => ?_⟩
    have x28 : Ext W w28 := ((hP.then c23).tr x25).tr nb.ext
    have hb19 : b19 < w28.heap.size := by have := hP.lt; have := c23.size; have := x25.size; have := nb.ext.size; omega
    have hb19f : W.heap.size ≤ b19 := hP.fresh
    have ho28 := ho.ext x28
    have hp28 := hp.ext x28
    refine ⟨_, ho28, b27, 0, [.int .i64 q.2], rfl, ⟨cell_blk nb.here rfl, trivial⟩, rfl, rfl, by omega, fun e => ?_, fun s32 w31 hA => ?_⟩
    · have := ho.lt e; omega
    obtain ⟨ho31, hp31, hn31⟩ := two_app ho28 hp28 hn hA
    have X31 : Ext w w31 := Chg.of_new (X.tr x28) hA.chg hfc
    have hb31 := hA.chg.size
    refine k_apply_Encode (hC.ext X31) (by omega) hms fun r w47 lr x47 hor hv ht hrl hrf => ⟨x47.keep (by omega), fun b52 w53 nb2 => ?_⟩
    have x53 := x47.tr nb2.ext
    have ho53 := ho31.ext x53
    have hp53 := hp31.ext x53
    have hrn := hor.len intE_len (by decide)
    refine ⟨_, hp53, b52, 0, [.int .i64 ((r.n : Nat) : Int)], rfl, ⟨cell_blk nb2.here rfl, trivial⟩, rfl, rfl, by omega, fun e => ?_, fun s56 w55 hA2 => ?_⟩
    · have := hp.lt e; omega
    obtain ⟨hp55, ho55, hn55⟩ := two_app hp53 ho53 (fun x h1 h2 => hn31 x h2 h1) hA2
    refine ⟨_, rfl, ⟨k + 1, by rw [wr64 (by omega)]; simp, by omega, Chg.of_new (X31.tr x53) hA2.chg hfl, ?_, ?_, ?_, ?_, fun x h1 h2 => hn55 x h2 h1⟩, by rw [wr64 (by omega)]; dsimp only; omega⟩
    · rw [tk hq, List.map_append]; exact ho55
    · rw [tk hq, List.map_append, List.map_cons, List.map_nil, ← lenOf ht, ← hrn]; exact hp55
    · intro x hx'
      rcases hA.lt hx' with h | h
      · exact hfc x h
      · exact Nat.le_trans (X.tr x28).size h
    · intro x hx'
      rcases hA2.lt hx' with h | h
      · exact hfl x h
      · exact Nat.le_trans (X31.tr x53).size h
  · rw [List.take_of_length_le (by omega)] at ho hp
    refine k_checked_DotF (ho.rows intE_len (by decide)) (hp.rows intE_len (by decide)) (by simp) (by simp; omega) ?_ ?_ fun w' x' => h w' (X.tr x')
    · intro x hx'
      obtain ⟨d, hd, rfl⟩ := List.mem_map.1 hx'
      exact hi d hd
    · intro x hx'
      obtain ⟨d, hd, rfl⟩ := List.mem_map.1 hx'
      have := splitT_len ms d.1
      have := hz d hd
      exact ⟨by omega, by omega⟩
theorem k_ref20_Count {s p : Sl} {ds : List Wd} {R : Int → Bool → World → Prop} (hp : Rows w 2 mgE p ms) (hm : Sm ms) (hx : Rows w 2 wdE s ds) (hi : ∀ d ∈ ds, I64 d.2) (hz : ∀ d ∈ ds, d.1.size ≤ 100) (hlen : ds.length ≤ 1099511627776) (hms : ms.length ≤ 1099511627776)
    (h : ∀ w', Ext w w' → R (cntD ms ds).1 (cntD ms ds).2 w') :
    Calls PP n_ref20_Count #[p.v, s.v] w fun e w' => ∃ (r : Int) (q : Bool), e = .returned (.tuple #[.int .i64 r, .bool q]) ∧ R r q w' := by
  refine vc_ref20_Count ?_
  unfold VC_ref20_Count
  have l1 := hx.len
  have l3 := hx.lim
  have hmax : maxLen = 9223372036854775807 := rfl
  refine ⟨fun c l i W => ∃ k : Nat, i = k ∧ k ≤ ds.length ∧ Ext w W ∧ OwnL W t_int 1 intE c ((ds.take k).map (·.2)) ∧ OwnL W t_int 1 intE l ((ds.take k).map fun d => (((splitT ms d.1).length : Nat) : Int)) ∧ (∀ x, c.blk = some x → w.heap.size ≤ x) ∧ (∀ x, l.blk = some x → w.heap.size ≤ x) ∧ ∀ x, c.blk = some x → l.blk ≠ some x, fun _ _ i _ => (ds.length - i).toNat,
    ⟨0, rfl, by omega, Chg.refl w, OwnL.nil, OwnL.nil, fun c hc => (nomatch hc), fun c hc => (nomatch hc), fun c hc => (nomatch hc)⟩, ?_⟩
  rintro c l _ W ⟨k, rfl, hk, X, ho, hpl, hfc, hfl, hn⟩
  have hcn := ho.len intE_len (by decide)
  have hln := hpl.len intE_len (by decide)
  rw [List.length_map, List.length_take] at hcn hln
  refine ⟨fun hl => ?_, fun hl => ?_⟩
  · obtain ⟨g, o, q, hg, hq, hc1, hc2⟩ := (hx.ext X).wd (i := k) (by omega)
    have hqz := hz q (gm hq)
    refine ⟨k, rfl, by omega, g, o, hg, q.2, hc2, _, ho, by omega, fun s23 w22 hA => ?_⟩
    obtain ⟨ho31, hp31, hn31⟩ := two_app ho hpl hn hA
    have X31 : Ext w w22 := Chg.of_new X hA.chg hfc
    obtain ⟨g', o', q', hg', hq', hc1', hc2'⟩ := (hx.ext X31).wd (i := k) (by omega)
    rw [hq] at hq'; cases hq'
    rw [hg] at hg'; cases hg'
    refine ⟨q.1, hc1', k_ref20_Split (hp.ext X31) hm hms (by omega) fun r w47 x47 hor hrf => ?_⟩
    have ho53 := ho31.ext x47
    have hp53 := hp31.ext x47
    have hrn := hor.len strE_len (by decide)
    refine ⟨_, hp53, by omega, fun s56 w55 hA2 => ?_⟩
    obtain ⟨hp55, ho55, hn55⟩ := two_app hp53 ho53 (fun x h1 h2 => hn31 x h2 h1) hA2
    refine ⟨_, rfl, ⟨k + 1, by rw [wr64 (by omega)]; simp, by omega, Chg.of_new (X31.tr x47) hA2.chg hfl, ?_, ?_, ?_, ?_, fun x h1 h2 => hn55 x h2 h1⟩, by rw [wr64 (by omega)]; dsimp only; omega⟩
    · rw [tk hq, List.map_append]; exact ho55
    · rw [tk hq, List.map_append, List.map_cons, List.map_nil, ← hrn]; exact hp55
    · intro x hx'
      rcases hA.lt hx' with h | h
      · exact hfc x h
      · exact Nat.le_trans X.size h
    · intro x hx'
      rcases hA2.lt hx' with h | h
      · exact hfl x h
      · exact Nat.le_trans (X31.tr x47).size h
  · rw [List.take_of_length_le (by omega)] at ho hpl
    refine k_ref06_Dot (ho.rows intE_len (by decide)) (hpl.rows intE_len (by decide)) (by simp) (by simp; omega) ?_ ?_ fun w' x' => h w' (X.tr x')
    · intro x hx'
      obtain ⟨d, hd, rfl⟩ := List.mem_map.1 hx'
      exact hi d hd
    · intro x hx'
      obtain ⟨d, hd, rfl⟩ := List.mem_map.1 hx'
      have := splitT_len ms d.1
      have := hz d hd
      exact ⟨by omega, by omega⟩
end
end Go.Proofs.Ytchjcjocihckpaa.G
