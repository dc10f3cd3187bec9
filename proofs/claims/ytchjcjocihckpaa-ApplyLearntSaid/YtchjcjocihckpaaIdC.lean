/- Contracts: learning merges, words by merges; the law on learnt merges, walked. -/
import Derived.Test.YtchjcjocihckpaaIcC
namespace Go.Proofs.Ytchjcjocihckpaa.G
open Go Go.RowKit
theorem mem_flat {u : BA} : ∀ {l : List BA}, u ∈ l → u.size ≤ (flatB l).size
  | v :: l, h => by
    rw [flatB_cons, ba_append_size]
    rcases List.mem_cons.1 h with rfl | h
    · omega
    · have := mem_flat h; omega
theorem posD_mem {ds : List Wd} {d : Wd} (h : d ∈ ds) : d.1.size ≤ posD ds := sum_mem (List.mem_map.2 ⟨d, h, rfl⟩)
theorem wsOf_take {ds : List Wd} {k : Nat} {d : Wd} (h : ds[k]? = some d) (ms : List Mg) : wsOf (ds.take (k + 1)) ms = wsOf (ds.take k) ms ++ [splitT ms d.1] := by
  unfold wsOf; rw [tk h, List.map_append]; rfl
theorem csOf_take {ds : List Wd} {k : Nat} {d : Wd} (h : ds[k]? = some d) : csOf (ds.take (k + 1)) = csOf (ds.take k) ++ [d.2] := by
  unfold csOf; rw [tk h, List.map_append]; rfl
theorem wsOf_join (ds : List Wd) (ms : List Mg) (m : Mg) : (wsOf ds ms).map (joinT m) = wsOf ds (ms ++ [m]) := by
  unfold wsOf
  rw [List.map_map]
  apply List.map_congr_left
  intro d _
  show joinT m (splitT ms d.1) = _
  rw [splitT_snoc]
theorem Lrn.size {ts : List BA} {ms : List Mg} (h : Lrn ts ms) {n : Nat} (hz : ∀ t ∈ ts, t.size ≤ n) {m : Mg} (hm : m ∈ ms) : m.1.size + m.2.size ≤ n := by
  obtain ⟨k, hk⟩ := List.mem_iff_getElem?.1 hm
  obtain ⟨t, ht, ha⟩ := h k m hk
  have := adj_flat ha
  rw [flatB_split] at this
  have := hz t ht; omega
section
variable {w w1 : World}
theorem k_ref16_Learn {s : Sl} {ds : List Wd} {budget least : Int} {R : Sl → World → Prop} (hx : Rows w 2 wdE s ds) (hi : ∀ d ∈ ds, I64 d.2) (hp : posD ds ≤ 1099511627776) (hlen : ds.length ≤ 1099511627776)
    (h0 : ((chkD ds).2 ≠ 0 ∨ least < 1) → ∀ w', Ext w w' → R ⟨none, 0, 0⟩ w')
    (h1 : (chkD ds).2 = 0 → 1 ≤ least → ∀ r ms w', Ext w w' → OwnL w' t_api_Merge 2 mgE r ms → (∀ c, r.blk = some c → w.heap.size ≤ c) → LearnIs ds budget least ms → ms.length ≤ posD ds → R r w') :
    Calls PP n_ref16_Learn #[s.v, .int .i64 budget, .int .i64 least] w fun e w' => ∃ r : Sl, e = .returned r.v ∧ R r w' := by
  refine vc_ref16_Learn ?_
  unfold VC_ref16_Learn
  have l1 := hx.len
  have l3 := hx.lim
  have hmax : maxLen = 9223372036854775807 := rfl
  have hdz : ∀ d ∈ ds, d.1.size ≤ 1099511627776 := fun d hd => Nat.le_trans (posD_mem hd) hp
  refine k_ref08_Check hx hi hdz fun w2 x2 => ?_
  refine ⟨fun j W => W = w2 ∧ (j = true ↔ ((chkD ds).2 ≠ 0 ∨ least < 1)), ?_, fun hn => ⟨rfl, by simp [hn]⟩, fun hn => ⟨rfl, by simp at hn; simp [hn]⟩⟩
  rintro j W ⟨rfl, hj⟩
  refine ⟨fun h => h0 (hj.1 h) W x2, fun h => ?_⟩
  have hn : ¬ ((chkD ds).2 ≠ 0 ∨ least < 1) := fun e => by rw [hj.2 e] at h; cases h
  have hck : (chkD ds).2 = 0 := Decidable.byContradiction fun e => hn (.inl e)
  have hle : 1 ≤ least := by have : ¬ least < 1 := fun e => hn (.inr e); omega
  clear h0 hj h hn
  have h1 := h1 hck hle
  have hcs : ∀ c ∈ csOf ds, 1 ≤ c := fun c hc => by
    obtain ⟨d, hd, rfl⟩ := List.mem_map.1 hc
    exact (chkD_word hck hd).1
  refine ⟨fun q t i W' => ∃ k : Nat, i = k ∧ k ≤ ds.length ∧ Ext w W' ∧ RwsO W' q (wsOf (ds.take k) []) ∧ OwnL W' t_int 1 intE t (csOf (ds.take k)) ∧ (∀ c, q.blk = some c → w.heap.size ≤ c) ∧ (∀ c, t.blk = some c → w.heap.size ≤ c), fun _ _ i _ => (ds.length - i).toNat,
    ⟨0, rfl, by omega, x2, RwsO.nil, OwnL.nil, fun c hc => (nomatch hc), fun c hc => (nomatch hc)⟩, ?_⟩
  rintro q t _ W' ⟨k, rfl, hk, X, hQ, hT, hqf, htf⟩
  refine ⟨fun hl => ?_, fun hl => ?_⟩
  · obtain ⟨g, o, d, hg, hd, hc1, hc2⟩ := (hx.ext X).wd (i := k) (by omega)
    have hdd := hdz d (gm hd)
    refine ⟨k, rfl, by omega, g, o, hg, d.1, hc1, k_ref16_Texts hdd fun r w32 x32 hr hrf => ?_⟩
    obtain ⟨rs, hO, hrl, hrr⟩ := hQ.ext x32
    have hqn := hO.len slE_len (by decide)
    have hwl : (wsOf (ds.take k) []).length = k := by simp [wsOf]; omega
    refine ⟨_, hO, by omega, fun s41 w40 hA => ?_⟩
    have hT32 := hT.ext x32
    have hT40 := hT32.chg hA.chg fun b hb => own_sep hT32 hO (by decide) b hb
    have X40 : Ext w w40 := Chg.of_new (X.tr x32) hA.chg hqf
    obtain ⟨g', o', d', hg', hd', hc1', hc2'⟩ := (hx.ext X40).wd (i := k) (by omega)
    rw [hd] at hd'; cases hd'
    rw [hg] at hg'; cases hg'
    have hQ40 := RwsO.push hO hrl hrr hr hA
    have htn := hT40.len intE_len (by decide)
    have hcl : (csOf (ds.take k)).length = k := by simp [csOf]; omega
    refine ⟨d.2, hc2', _, hT40, by omega, fun s54 w53 hA2 => ⟨_, rfl, ⟨k + 1, by rw [wr64 (by omega)]; simp, by omega, Chg.of_new X40 hA2.chg htf, ?_, ?_, fun c hc => ?_, fun c hc => ?_⟩, by rw [wr64 (by omega)]; dsimp only; omega⟩⟩
    · rw [wsOf_take hd]
      obtain ⟨rs', hO', -, -⟩ := id hQ40
      exact hQ40.app hT40 (by decide) (own_sep hO' hT40 (by decide)) hA2.chg
    · rw [csOf_take hd]; exact hA2.ownL
    · rcases hA.lt hc with h | h
      · exact hqf c h
      · exact Nat.le_trans (X.tr x32).size h
    · rcases hA2.lt hc with h | h
      · exact htf c h
      · exact Nat.le_trans X40.size h
  · rw [List.take_of_length_le (by omega)] at hQ hT
    have hp0 := posT_of [] ds
    refine ⟨fun out q W3 => ∃ ms : List Mg, Ext w W3 ∧ OwnL W3 t_api_Merge 2 mgE out ms ∧ RwsO W3 q (wsOf ds ms) ∧ OwnL W3 t_int 1 intE t (csOf ds) ∧ (∀ c, out.blk = some c → w.heap.size ≤ c) ∧ ms.length + posT (wsOf ds ms) ≤ posD ds ∧ (∀ (k : Nat) (m : Mg), ms[k]? = some m → (k : Int) < budget ∧ ∃ n, least ≤ n ∧ BestIs (wsOf ds (ms.take k)) (csOf ds) m n),
      fun out _ _ => posD ds - out.n, ⟨[], X, OwnL.nil, hQ, hT, fun c hc => (nomatch hc), by simpa using hp0, fun k m hm => by simp at hm⟩, ?_⟩
    clear hQ hT
    rintro out q W3 ⟨ms, X3, hO, hQ, hT, hof, hpos, hev⟩
    have hon := hO.len mgE_len (by decide)
    have hpt := posT_of ms ds
    have hwl : (wsOf ds ms).length = ds.length := by simp [wsOf]
    have hcl : (csOf ds).length = ds.length := by simp [csOf]
    refine ⟨fun hb => ?_, fun hb => h1 out ms W3 X3 hO hof ⟨hev, .inl (by omega)⟩ (by omega)⟩
    refine k_ref16_Best hQ.rws (hT.rows intE_len (by decide)) (by omega) hcs (tot_max hck ms) (by omega) (fun l hl u hu => ?_) fun m n w71 x71 hB b75 w76 hP7 w79 c79 => ?_
    · obtain ⟨d, hd, rfl⟩ := List.mem_map.1 hl
      have := mem_flat hu
      rw [flatB_split] at this
      have := hdz d hd; omega
    have x79 : Ext W3 w79 := x71.tr (hP7.then c79)
    have hO79 := hO.ext x79
    have hQ79 := hQ.ext x79
    have hT79 := hT.ext x79
    have b75f : w71.heap.size ≤ b75 := hP7.fresh
    have hs71 := x71.size
    have b75l : b75 < w79.heap.size := Nat.lt_of_lt_of_le hP7.lt c79.size
    refine ⟨fun hn => h1 out ms w79 (X3.tr x79) hO79 hof ⟨hev, .inr ⟨m, n, hn, hB⟩⟩ (by omega), fun hn => ?_⟩
    have hadj : ∃ l ∈ wsOf ds ms, adjT m l := by
      rcases hB with ⟨e, _⟩ | ⟨e1, e2, _⟩
      · omega
      · exact tot_adj (cs := csOf ds) (by omega)
    have hmz : m.1.size + m.2.size ≤ 1099511627776 := by
      obtain ⟨l, hl, ha⟩ := hadj
      obtain ⟨d, hd, rfl⟩ := List.mem_map.1 hl
      have := adj_flat ha
      rw [flatB_split] at this
      have := hdz d hd; omega
    have hless := (posT_join (m := m) ms ds).2 hadj
    refine ⟨_, hO79, by omega, fun e => by have := hO.lt e; omega, fun s88 w87 hA => ?_⟩
    have X87 : Ext w w87 := Chg.of_new (X3.tr x79) hA.chg hof
    have hs87 := hA.chg.size
    have hO87 : OwnL w87 t_api_Merge 2 mgE s88 (ms ++ [m]) := hA.ownL
    have hQ87 : RwsO w87 q (wsOf ds ms) := by
      obtain ⟨rs', hO', -, -⟩ := id hQ79
      exact hQ79.app hO79 (by decide) (own_sep hO' hO79 (by decide)) hA.chg
    have hT87 := hT79.chg hA.chg fun b hb => own_sep hT79 hO79 (by decide) b hb
    have hof' : ∀ c, s88.blk = some c → w.heap.size ≤ c := fun c hc => by
      rcases hA.lt hc with h | h
      · exact hof c h
      · exact Nat.le_trans (X3.tr x79).size h
    refine ⟨fun nx j W4 => ∃ z : Nat, j = z ∧ z ≤ ds.length ∧ Ext w87 W4 ∧ RwsO W4 nx (((wsOf ds ms).take z).map (joinT m)) ∧ (∀ c, nx.blk = some c → w87.heap.size ≤ c), fun _ j _ => (ds.length - j).toNat, ⟨0, rfl, by omega, Chg.refl _, RwsO.nil, fun c hc => (nomatch hc)⟩, ?_⟩
    rintro nx _ W4 ⟨z, rfl, hz, X4, hN, hnf⟩
    have hqn := hQ87.rws.len
    refine ⟨fun hlz => ?_, fun hlz => ?_⟩
    · obtain ⟨g, o, r, l, hg, hwz, hrc, hrow⟩ := (hQ87.ext X4).rws.at (i := z) (by omega)
      have hll := posT_mem (gm hwz)
      refine ⟨z, rfl, by omega, g, o, hg, r, hrc, fun w112 x112 => ?_⟩
      refine k_ref16_Join (m := m) (hrow.ext x112) (by omega) (by omega) fun r119 w116 x116 hr hrf => ?_
      have x416 := x112.tr x116
      have hs4 := X4.size
      have hs112 := x112.size
      obtain ⟨rs, hO', hrl, hrr⟩ := hN.ext x416
      have hnn := hO'.len slE_len (by decide)
      have hwl2 : (((wsOf ds ms).take z).map (joinT m)).length = z := by simp; omega
      refine ⟨x116.keep (by omega), x416.cell hrc, _, hO', by omega, fun e => by have := hnf b75 e; omega, fun s128 w127 hA3 => ?_⟩
      have x127 : Ext w87 w127 := Chg.of_new (X4.tr x416) hA3.chg hnf
      obtain ⟨g', o', r', l', hg', hwz', hrc', hrow'⟩ := (hQ87.ext x127).rws.at (i := z) (by omega)
      have hqlt : ∀ c, q.blk = some c → c < w87.heap.size := fun c hc => by obtain ⟨rs', hOq, -, -⟩ := id hQ87; exact hOq.lt hc
      have hkeep : w127.cell? ⟨g, o + z * 1, none⟩ = some r.v := by
        refine hA3.chg.cell (x416.cell hrc) fun e => ?_
        have := hnf g e
        have := hqlt g (by simp [Sl.blk, hg])
        omega
      refine ⟨hkeep, _, rfl, ⟨z + 1, by rw [wr64 (by omega)]; simp, by omega, x127, ?_, fun c hc => ?_⟩, by rw [wr64 (by omega)]; dsimp only; omega⟩
      · have := RwsO.push hO' hrl hrr hr hA3
        rw [tk hwz, List.map_append]; exact this
      · rcases hA3.lt hc with h | h
        · exact hnf c h
        · exact Nat.le_trans (X4.tr x416).size h
    · rw [List.take_of_length_le (by omega), wsOf_join] at hN
      have hs88 := hO87.len mgE_len (by decide)
      rw [List.length_append, List.length_singleton] at hs88
      refine ⟨⟨ms ++ [m], X87.tr X4, hO87.ext X4, hN, hT87.ext X4, hof', by simp; omega, fun k' m' hm' => ?_⟩, by dsimp only; omega⟩
      rcases Nat.lt_or_ge k' ms.length with h4 | h4
      · rw [List.getElem?_append_left h4] at hm'
        rw [List.take_append_of_le_length (by omega)]
        exact hev k' m' hm'
      · have h5 := gl hm'
        have : k' = ms.length := by simp at h5; omega
        subst this
        rw [List.getElem?_append_right (Nat.le_refl _), Nat.sub_self] at hm'
        cases hm'
        rw [List.take_append_of_le_length (Nat.le_refl _), List.take_length]
        exact ⟨by omega, n, by omega, hB⟩
theorem k_ref16_LearnL {s : Sl} {ds : List Wd} {budget least : Int} {R : Sl → World → Prop} (hx : Rows w 2 wdE s ds) (hi : ∀ d ∈ ds, I64 d.2) (hp : posD ds ≤ 1099511627776) (hlen : ds.length ≤ 1099511627776)
    (h : ∀ r ms w', Ext w w' → Rows w' 2 mgE r ms → Lrn (ds.map (·.1)) ms → ms.length ≤ posD ds → R r w') :
    Calls PP n_ref16_Learn #[s.v, .int .i64 budget, .int .i64 least] w fun e w' => ∃ r : Sl, e = .returned r.v ∧ R r w' :=
  k_ref16_Learn hx hi hp hlen (fun _ w' x => h _ [] w' x Rows.nil (fun k m hm => by simp at hm) (Nat.zero_le _)) fun _ hle r ms w' x ho _ hL hml => h r ms w' x (ho.rows mgE_len (by decide)) (hL.lrn hle) hml
theorem k_ref17_Words {s p : Sl} {ds : List Wd} {ms : List Mg} {R : Sl → World → Prop} (hx : Rows w 2 wdE s ds) (hm : Rows w 2 mgE p ms) (hms : ∀ m ∈ ms, m.1.size + m.2.size ≤ 1099511627776) (hml : ms.length ≤ 1099511627776) (hp : posD ds ≤ 1099511627776) (hlen : ds.length ≤ 1099511627776)
    (h : ∀ r w', Ext w w' → RwsO w' r (wsOf ds ms) → (∀ c, r.blk = some c → w.heap.size ≤ c) → R r w') :
    Calls PP n_ref17_Words #[s.v, p.v] w fun e w' => ∃ r : Sl, e = .returned r.v ∧ R r w' := by
  refine vc_ref17_Words ?_
  unfold VC_ref17_Words
  have l1 := hx.len
  have l2 := hm.len
  have l3 := hx.lim
  have hmax : maxLen = 9223372036854775807 := rfl
  refine ⟨fun q i W' => ∃ k : Nat, i = k ∧ k ≤ ds.length ∧ Ext w W' ∧ RwsO W' q (wsOf (ds.take k) ms) ∧ (∀ c, q.blk = some c → w.heap.size ≤ c), fun _ i _ => (ds.length - i).toNat,
    ⟨0, rfl, by omega, Chg.refl _, RwsO.nil, fun c hc => (nomatch hc)⟩, ?_⟩
  rintro q _ W ⟨k, rfl, hk, X, hQ, hqf⟩
  refine ⟨fun hl => ?_, fun hl => ?_⟩
  · obtain ⟨g, o, d, hg, hd, hc1, hc2⟩ := (hx.ext X).wd (i := k) (by omega)
    have hdd := Nat.le_trans (posD_mem (gm hd)) hp
    refine ⟨k, rfl, by omega, g, o, hg, d.1, hc1, k_ref16_Texts hdd fun r w18 x18 hr hrf => ?_⟩
    refine ⟨fun r j W3 => ∃ z : Nat, j = z ∧ z ≤ ms.length ∧ Ext W W3 ∧ OwnL W3 t_string 1 strE r (splitT (ms.take z) d.1), fun _ j _ => (ms.length - j).toNat, ⟨0, rfl, by omega, x18, hr⟩, ?_⟩
    rintro r2 _ W3 ⟨z, rfl, hz, X3, hr3⟩
    refine ⟨fun hl2 => ?_, fun hl2 => ?_⟩
    · obtain ⟨g2, o2, m, hg2, hmz, hm1, hm2⟩ := (hm.ext (X.tr X3)).mg (i := z) (by omega)
      have hl3 := splitT_len (ms.take z) d.1
      refine ⟨z, rfl, by omega, g2, o2, hg2, m.1, m.2, ⟨hm1, hm2, trivial⟩, k_ref16_Join (m := m) (hr3.rows strE_len (by decide)) (by omega) (by have := hms m (gm hmz); omega) fun r4 w4 x4 hr4 _ => ⟨_, rfl, ⟨z + 1, by rw [wr64 (by omega)]; simp, by omega, X3.tr x4, ?_⟩, by rw [wr64 (by omega)]; dsimp only; omega⟩⟩
      rw [tk hmz, splitT_snoc]; exact hr4
    · rw [List.take_of_length_le (by omega)] at hr3
      obtain ⟨rs, hO, hrl, hrr⟩ := hQ.ext X3
      have hqn := hO.len slE_len (by decide)
      have hwl : (wsOf (ds.take k) ms).length = k := by simp [wsOf]; omega
      refine ⟨_, hO, by omega, fun s49 w48 hA => ⟨_, rfl, ⟨k + 1, by rw [wr64 (by omega)]; simp, by omega, Chg.of_new (X.tr X3) hA.chg hqf, ?_, fun c hc => ?_⟩, by rw [wr64 (by omega)]; dsimp only; omega⟩⟩
      · rw [wsOf_take hd]; exact RwsO.push hO hrl hrr hr3 hA
      · rcases hA.lt hc with h | h
        · exact hqf c h
        · exact Nat.le_trans (X.tr X3).size h
  · rw [List.take_of_length_le (by omega)] at hQ
    exact h q W X hQ hqf
theorem posD_le {n : Nat} : ∀ ds : List Wd, (∀ d ∈ ds, d.1.size ≤ n) → posD ds ≤ ds.length * n
  | [], _ => Nat.zero_le _
  | d :: ds, h => by
    have h1 := h d (by simp)
    have h2 := posD_le ds fun x hx => h x (by simp [hx])
    have e : posD (d :: ds) = d.1.size + posD ds := rfl
    rw [List.length_cons, Nat.add_mul]; omega
theorem k_law20_ApplyLearnt {s : Sl} {ds : List Wd} {budget least : Int} {R : Bool → World → Prop} (hx : Rows w 2 wdE s ds) (hi : ∀ d ∈ ds, I64 d.2) (h : ∀ w', Ext w w' → R true w') :
    Calls PP n_law20_ApplyLearnt #[s.v, .int .i64 budget, .int .i64 least] w fun e w' => ∃ r : Bool, e = .returned (.bool r) ∧ R r w' := by
  refine vc_law20_ApplyLearnt ?_
  unfold VC_law20_ApplyLearnt
  have l1 := hx.len
  have l3 := hx.lim
  refine k_law20_awake fun w2 x2 => ⟨fun _ => ?_, fun h => (nomatch h)⟩
  refine k_ref07_Great (hx.ext x2) ⟨fun _ => h w2 x2, fun h => (nomatch h)⟩ fun hdz hdl => ⟨fun h => (nomatch h), fun _ => ?_⟩
  have hpd := posD_le ds hdz
  refine k_ref08_Positions (hx.ext x2) (by omega) ⟨fun _ => h w2 x2, fun _ => ?_⟩
  refine k_ref16_LearnL (hx.ext x2) hi (by omega) (by omega) fun r ms w20 x20 hr hL hml => ?_
  have X20 := x2.tr x20
  have hck := check_good (lrn_good hL fun t ht => by
    obtain ⟨d, hd, rfl⟩ := List.mem_map.1 ht
    have := hdz d hd; omega)
  have hrn := hr.len
  refine k_apply_New hr (by omega) (fun hne => absurd (by rw [hck]) hne) fun _ b js w25 x25 _ hC => ⟨fun hn => absurd rfl hn, fun _ => ⟨fun hn => (nomatch hn), fun _ => ?_⟩⟩
  have X25 := X20.tr x25
  refine k_ref17_Words (hx.ext X25) (hr.ext x25) (fun m hm => ?_) (by omega) (by omega) (by omega) fun r35 w32 x32 hQ _ => ?_
  · have := hL.size (n := 100) (fun t ht => by obtain ⟨d, hd, rfl⟩ := List.mem_map.1 ht; exact hdz d hd) hm
    omega
  have X32 := X25.tr x32
  have hC32 := hC.ext x32
  have hQn := hQ.rws.len
  have hwl : (wsOf ds ms).length = ds.length := by simp [wsOf]
  refine ⟨fun i W => ∃ k : Nat, i = k ∧ k ≤ ds.length ∧ Ext w32 W, fun i _ => (ds.length - i).toNat, ⟨0, rfl, by omega, Chg.refl _⟩, ?_⟩
  rintro _ W ⟨k, rfl, hk, X⟩
  refine ⟨fun hl => ?_, fun _ => h W (X32.tr X)⟩
  obtain ⟨g, o, d, hg, hd, hc1, hc2⟩ := (hx.ext (X32.tr X)).wd (i := k) (by omega)
  obtain ⟨g', o', v, l, hg', hwk, hrc, hrow⟩ := (hQ.rws.ext X).at (i := k) (by omega)
  have hl : l = splitT ms d.1 := by
    unfold wsOf at hwk
    rw [List.getElem?_map, hd] at hwk
    exact (Option.some.inj hwk).symm
  have hdd := hdz d (gm hd)
  refine ⟨k, rfl, by omega, g, o, hg, d.1, hc1, by omega, g', o', hg', v, hrc, fun w57 x57 => ?_⟩
  refine k_apply_Split (hC32.ext (X.tr x57)) (by omega) (by omega) fun r64 w61 x61 ho _ => ?_
  have x61' := x57.tr x61
  refine ⟨x61'.cell hc1, x61'.cell hrc, k_ref01_Texts (ho.rows strE_len (by decide)) (hrow.ext x61') fun w68 x68 => ?_⟩
  have x68' := x61'.tr x68
  refine ⟨x68'.cell hc1, x68'.cell hrc, fun _ => ⟨_, rfl, ⟨k + 1, by rw [wr64 (by omega)]; simp, by omega, X.tr x68'⟩, by rw [wr64 (by omega)]; dsimp only; omega⟩, fun hf => absurd hl.symm (of_decide_eq_false hf)⟩
end
end Go.Proofs.Ytchjcjocihckpaa.G
