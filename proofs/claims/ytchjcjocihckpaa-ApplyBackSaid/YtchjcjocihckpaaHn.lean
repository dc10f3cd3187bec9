/- Contract: all texts, by the document's answer. -/
import Derived.Test.YtchjcjocihckpaaHm
namespace Go.Proofs.Ytchjcjocihckpaa.G
open Go Go.RowKit
/-- A row of texts that was begun behind a world. -/
structure Bld (w0 w : World) (s : Sl) (L : List BA) : Prop where
  ext : Ext w0 w
  own : OwnL w t_string 1 strE s L
  new : ∀ c, s.blk = some c → w0.heap.size ≤ c
section
variable {w0 w w1 : World} {s s1 y : Sl} {L ys : List BA}
theorem Bld.ex (h : Bld w0 w s L) (x : Ext w w1) : Bld w0 w1 s L := ⟨h.ext.tr x, h.own.ext x, h.new⟩
theorem Bld.app {m : Nat} (h : Bld w0 w s L) (hA : App w t_string 1 s (L.flatMap strE) m (ys.flatMap strE) s1 w1) : Bld w0 w1 s1 (L ++ ys) :=
  ⟨Chg.of_new h.ext hA.chg fun c hc => h.new c hc, hA.more, fun c hc => by
    rcases hA.lt hc with h2 | h2
    · exact h.new c h2
    · exact Nat.le_trans h.ext.size h2⟩
/-- The append of a row that may be read. -/
theorem app3 {G : Sl → World → Prop} (h : Bld w0 w s L) (hl : L.length + y.n ≤ 1099511627776) {b o : Nat} (hy : y.b = some ⟨b, o, none⟩) (hc : Cells w b o (ys.flatMap strE)) (hn : y.n = ys.length)
    (hG : ∀ s' w', Bld w0 w' s' (L ++ ys) → Chg (fun c => s.blk = some c) w w' → (∀ c, s'.blk = some c → s.blk = some c ∨ w.heap.size ≤ c) → G s' w') :
    ∃ xs : List Value, Own w t_string 1 s xs ∧ ∃ (b o : Nat) (news : List Value), y.b = some ⟨b, o, none⟩ ∧ Cells w b o news ∧ news.length = y.n * 1 ∧ news.all (·.oneCell') = true ∧ ((s.n + y.n) * 16 ≤ 140737488355328 ∧ s.n + y.n ≤ maxLen) ∧
      ∀ (s' : Sl) (w' : World), App w t_string 1 s xs y.n news s' w' → G s' w' := by
  have hs := h.own.len strE_len (by decide)
  have hm : maxLen = 9223372036854775807 := rfl
  exact ⟨_, h.own, b, o, _, hy, hc, by rw [strs_len, hn], strs_one ys, by omega, fun s' w' hA => hG s' w' (h.app hA) hA.chg fun c hc => hA.lt hc⟩
theorem Bld.start {b : Nat} (x : Ext w0 w) (h : New w b (.cells #[] t_string (0, 0)) w1) : Bld w0 w1 ⟨some ⟨b, 0, none⟩, 0, 0⟩ [] :=
  ⟨x.tr h.ext, own_none h, fun c hc => by cases hc; exact Nat.le_trans x.size h.fresh⟩
theorem one_cells {b : Nat} {t : BA} (h : w.heap[b]? = some (.cells #[.string t] t_string (0, 0))) : Cells w b 0 ([t].flatMap strE) := ⟨cell_blk h rfl, trivial⟩
end
theorem ones_at {i : Nat} (h : i < 256) : ones[i]? = some (one (UInt8.ofNat i)) := by unfold ones; rw [List.getElem?_map, List.getElem?_range h]; rfl
theorem bless_one {a b : UInt8} (h : a < b) : bless (one a) (one b) = true := by
  unfold bless one
  simp [Op.bytesLess, h]
theorem srt_ones : Srt ones := by
  refine List.pairwise_iff_getElem.2 fun i j hi hj hij => ?_
  have h1 : i < 256 := by simpa [ones] using hi
  have h2 : j < 256 := by simpa [ones] using hj
  have e1 := ones_at h1
  have e2 := ones_at h2
  rw [List.getElem?_eq_getElem hi] at e1
  rw [List.getElem?_eq_getElem hj] at e2
  rw [Option.some.inj e1, Option.some.inj e2]
  refine bless_one ?_
  rw [UInt8.lt_iff_toNat_lt, UInt8.toNat_ofNat', UInt8.toNat_ofNat', Nat.mod_eq_of_lt (by omega), Nat.mod_eq_of_lt (by omega)]; exact hij
theorem ones_len : ones.length = 256 := by simp [ones]
section
variable {w : World}
theorem k_ref21_Texts {s : Sl} {ms : List Mg} {R : Sl → World → Prop} (hx : Rows w 2 mgE s ms) (hg : good ms) (hlen : ms.length ≤ 1048576)
    (h : ∀ r w' L, Ext w w' → OwnL w' t_string 1 strE r L → Srt L → (∀ t, t ∈ L ↔ t ∈ ones ++ ms.map Mg.tx) → L.length = 256 + ms.length → (∀ c, r.blk = some c → w.heap.size ≤ c) → R r w') :
    Calls PP n_ref21_Texts #[s.v] w fun e w' => ∃ r : Sl, e = .returned r.v ∧ R r w' := by
  refine vc_ref21_Texts ?_
  unfold VC_ref21_Texts
  have l1 := hx.len
  have hmax : maxLen = 9223372036854775807 := rfl
  refine ⟨fun r c w' => ∃ k : Nat, c = k ∧ k ≤ 256 ∧ Bld w w' r (ones.take k), fun _ c _ => (256 - c).toNat, ⟨0, rfl, by omega, ⟨Chg.refl w, OwnL.nil, fun c hc => nomatch hc⟩⟩, ?_⟩
  rintro r _ w1 ⟨k, rfl, hk, hB⟩
  refine ⟨fun hl => ?_, fun hl => ?_⟩
  · have hk' : k < 256 := by omega
    refine ⟨_, rfl, fun b w2 nb => ⟨[UInt8.ofNat k], ⟨rfl, .inr ⟨b, 0, rfl, cell_blk nb.here ?_, trivial⟩⟩, fun b' w3 nb' => ?_⟩⟩
    · show (#[Value.int .u8 (IntKind.wrap .u8 k)] : Array Value)[0]? = some (byV (UInt8.ofNat k))
      unfold byV
      rw [wr8 (by omega), UInt8.toNat_ofNat', Nat.mod_eq_of_lt (by omega)]; rfl
    · have hB3 := (hB.ex nb.ext).ex nb'.ext
      refine app3 (y := ⟨some ⟨b', 0, none⟩, 1, 1⟩) hB3 (by simp; omega) rfl (one_cells (t := one (UInt8.ofNat k)) nb'.here) rfl fun s' w' hB' _ _ => ⟨_, rfl, ⟨k + 1, by rw [wr64 (by omega)]; simp, by omega, ?_⟩, by rw [wr64 (by omega)]; dsimp only; omega⟩
      rw [tk (ones_at hk')]; exact hB'
  · have e256 : k = 256 := by omega
    have hfull : ones.take k = ones := by rw [e256]; exact List.take_of_length_le (by simp [ones])
    rw [hfull] at hB
    clear hfull e256 hl hk k
    refine ⟨fun r c w' => ∃ (k : Nat) (L : List BA), c = k ∧ k ≤ ms.length ∧ Bld w w' r L ∧ Srt L ∧ (∀ t, t ∈ L ↔ t ∈ ones ++ (ms.take k).map Mg.tx) ∧ L.length = 256 + k, fun _ c _ => (ms.length - c).toNat, ⟨0, ones, rfl, by omega, hB, srt_ones, by simp, ones_len⟩, ?_⟩
    rintro r _ w2 ⟨k, L, rfl, hk, hB, hsrt, hmem, hL⟩
    refine ⟨fun hl => ?_, fun hl => ?_⟩
    · obtain ⟨g, o, m, hgb, hme, hc, hc2⟩ := (hx.ext hB.ext).mg (i := k) (by omega)
      obtain ⟨sd1, sd2, sz, hdis⟩ := hg.sd hme
      obtain ⟨p1, p2⟩ := hg.pos k m hme
      have zt := ba_append_size m.1 m.2
      have hn := hB.own.len strE_len (by decide)
      have hcap := hB.own.cap
      have hb : r.b ≠ none := fun e => by
        obtain ⟨h1, ⟨h2, h3⟩ | ⟨g, cap, cur, h2, h3⟩⟩ := hB.own
        · omega
        · rcases r with ⟨b, n, c⟩; simp only [Sl.v, Value.slice.injEq] at h2; rw [h2.1] at e; cases e
      have hnew : m.tx ∉ L := by
        rw [hmem, List.mem_append, not_or]
        constructor
        · intro hm
          unfold ones at hm
          rw [List.mem_map] at hm
          obtain ⟨i, _, e⟩ := hm
          have := congrArg ByteArray.size e
          rw [one_size] at this
          have e2 : m.tx.size = m.1.size + m.2.size := zt
          omega
        · intro hm
          rw [List.mem_map] at hm
          obtain ⟨q, hq, e⟩ := hm
          exact hdis q hq e
      refine ⟨k, rfl, by omega, g, o, hgb, m.1, hc, m.2, hc2, by omega, fun j w3 => ∃ q : Nat, j = q ∧ q ≤ L.length ∧ Ext w2 w3 ∧ (∀ i u, q ≤ i → L[i]? = some u → bless m.tx u = true) ∧ (q = 0 ∨ ∃ u, L[q - 1]? = some u ∧ bless m.tx u = false), ?_, fun w3 x3 => ?_⟩
      · rintro _ w3 ⟨q, rfl, hq, x3, h1, h2⟩
        have hB3 := hB.ex x3
        have hput := srt_put hsrt hq hnew h1 h2
        have hin : ∀ (s' : Sl) (w' : World), Bld w3 w' s' (L.take q ++ [m.tx] ++ L.drop q) → ∃ z : Int, z = IntKind.wrap .i64 (((k : Nat) : Int) + 1) ∧ (∃ (k' : Nat) (L' : List BA), z = k' ∧ k' ≤ ms.length ∧ Bld w w' s' L' ∧ Srt L' ∧ (∀ t, t ∈ L' ↔ t ∈ ones ++ (ms.take k').map Mg.tx) ∧ L'.length = 256 + k') ∧ ((ms.length : Int) - z).toNat < ((ms.length : Int) - (k : Int)).toNat := by
          intro s' w' hB'
          refine ⟨_, rfl, ⟨k + 1, _, by rw [wr64 (by omega)]; simp, by omega, ⟨hB3.ext.tr hB'.ext, hB'.own, fun c hc => Nat.le_trans hB3.ext.size (hB'.new c hc)⟩, hput, fun t => ?_, ?_⟩, by rw [wr64 (by omega)]; omega⟩
          · have : t ∈ L.take q ++ [m.tx] ++ L.drop q ↔ t ∈ L ∨ t = m.tx := by
              have e := List.take_append_drop q L
              rw [List.mem_append, List.mem_append, List.mem_singleton]
              constructor
              · rintro ((h | h) | h)
                · exact .inl (List.mem_of_mem_take h)
                · exact .inr h
                · exact .inl (List.mem_of_mem_drop h)
              · rintro (h | h)
                · rw [← e, List.mem_append] at h
                  rcases h with h | h
                  · exact .inl (.inl h)
                  · exact .inr h
                · exact .inl (.inr h)
            rw [this, hmem, tk hme, List.map_append, ← List.append_assoc, List.mem_append (s := ones ++ _)]
            simp
          · simp only [List.length_append, List.length_take, List.length_drop, List.length_singleton]; omega
        have hfr := hB3.own.front hb (k := q) (by omega)
        have hbk := hB3.own.back hb (k := q) (by omega)
        have nf : (r.sub 0 q 1).n = (L.take q).length := by simp [Sl.sub]; omega
        have nk : (r.sub q r.n 1).n = (L.drop q).length := by simp [Sl.sub]; omega
        obtain ⟨gf, f1, f2, f3⟩ := hfr
        obtain ⟨gk, ok, k1, k2, k3⟩ := hbk
        have hlf : (L.take q).length ≤ L.length := by simp; omega
        have hlk : (L.drop q).length ≤ L.length := by simp
        refine ⟨q, rfl, ⟨Nat.zero_le _, by omega⟩, ⟨by omega, hcap⟩, ⟨fun w4 x4 b w5 nb => ⟨?_, fun b' w6 nb' => ?_⟩, fun w4 x4 b' w6 nb' b w5 nb => ?_⟩⟩
        · have B0 := Bld.start x4 nb
          refine app3 B0 (by simp; omega) f1 (Cells.ext (x4.tr nb.ext) f3) nf fun s1 w7 B1 c1 l1 b' w8 nb' => ?_
          refine app3 (y := ⟨some ⟨b', 0, none⟩, 1, 1⟩) (B1.ex nb'.ext) (by simp; omega) rfl (one_cells nb'.here) rfl fun s2 w9 B2 c2 l2 => ?_
          exact app3 B2 (by simp; omega) k1 (Cells.ext B2.ext k3) nk fun s3 w10 B3 _ _ => hin s3 w10 B3
        · have B0 := (Bld.start x4 nb).ex nb'.ext
          have hne : b' ≠ b := by have := nb.lt; have := nb'.fresh; omega
          refine app3 B0 (by simp; omega) f1 (Cells.ext B0.ext f3) nf fun s1 w7 B1 c1 l1 => ?_
          have hq' : w7.heap[b']? = some (.cells #[.string m.tx] t_string (0, 0)) := c1.get nb'.here fun e => hne (by cases e; rfl)
          refine app3 (y := ⟨some ⟨b', 0, none⟩, 1, 1⟩) B1 (by simp; omega) rfl (one_cells hq') rfl fun s2 w9 B2 c2 l2 => ?_
          exact app3 B2 (by simp; omega) k1 (Cells.ext B2.ext k3) nk fun s3 w10 B3 _ _ => hin s3 w10 B3
        · have B0 := Bld.start (x4.tr nb'.ext) nb
          have hne : b' ≠ b := by have := nb'.lt; have := nb.fresh; omega
          refine app3 B0 (by simp; omega) f1 (Cells.ext B0.ext f3) nf fun s1 w7 B1 c1 l1 => ?_
          have hq' : w7.heap[b']? = some (.cells #[.string m.tx] t_string (0, 0)) := c1.get (nb.ext.get nb'.here) fun e => hne (by cases e; rfl)
          refine app3 (y := ⟨some ⟨b', 0, none⟩, 1, 1⟩) B1 (by simp; omega) rfl (one_cells hq') rfl fun s2 w9 B2 c2 l2 => ?_
          exact app3 B2 (by simp; omega) k1 (Cells.ext B2.ext k3) nk fun s3 w10 B3 _ _ => hin s3 w10 B3
      · refine ⟨fun j w4 => ∃ q : Nat, j = q ∧ q ≤ L.length ∧ Ext w2 w4 ∧ ∀ i u, q ≤ i → L[i]? = some u → bless m.tx u = true, fun j _ => j.toNat, ⟨L.length, by rw [hn], Nat.le_refl _, x3, fun i u h1 h2 => absurd (gl h2) (by omega)⟩, ?_⟩
        rintro _ w4 ⟨q, rfl, hq, x4, h1⟩
        refine ⟨fun h0 => ⟨_, rfl, q - 1, by rw [wr64 (by omega)]; omega, by omega, ?_⟩, fun h0 => ⟨q, rfl, hq, x4, h1, .inl (by omega)⟩⟩
        have hB4 := hB.ex x4
        obtain ⟨b, o, u, hb', hu, hcu⟩ := (hB4.own.rows strE_len (by decide)).str (i := q - 1) (by omega)
        have hu8 : m.tx.size ≤ 9223372036854775806 := by have e2 : m.tx.size = m.1.size + m.2.size := zt; omega
        refine ⟨b, o, hb', u, hcu, k_ref01_Less hu8 fun w5 x5 => ⟨fun ht => ⟨_, rfl, ⟨q - 1, by rw [wr64 (by omega)]; omega, by omega, x4.tr x5, fun i v hi hv => ?_⟩, by rw [wr64 (by omega)]; dsimp only; omega⟩, fun hf => ⟨q, rfl, hq, x4.tr x5, h1, .inr ⟨u, hu, hf⟩⟩⟩⟩
        rcases Nat.lt_or_ge i q with hlt | hge
        · have : i = q - 1 := by omega
          subst this; rw [hu] at hv; cases hv; exact ht
        · exact h1 i v hge hv
    · have : k = ms.length := by omega
      subst this
      rw [List.take_length] at hmem
      exact h r w2 L hB.ext hB.own hsrt hmem hL hB.new
end
end Go.Proofs.Ytchjcjocihckpaa.G
