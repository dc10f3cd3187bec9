/- Contracts: a builder of texts. -/
import Derived.Test.YtchjcjocihckpaaVC
import Derived.Test.YtchjcjocihckpaaIterC
import Derived.Test.YtchjcjocihckpaaPmC
import Derived.Shelf.Strings.BuilderK
import Derived.WalkKit
namespace Go.Proofs.Ytchjcjocihckpaa.G
open Go Go.RowKit Go.Shelf
abbrev pB (b : Nat) : Value := .pointer (some ⟨b, 0, none⟩)
theorem sizeB : (PP.info? t_strings_Builder).map (·.size) = some 2 := by kernel_rfl
theorem liesB : liesAt PP PP.depth t_strings_Builder (2 / PP.cellsOf t_strings_Builder) 0 t_strings_Builder 1 = true := by kernel_rfl
set_option maxHeartbeats 1000000 in
set_option maxRecDepth 100000 in
theorem chk_used (b : Nat) (w : World) (h0 : w.cell? ⟨b, 0, none⟩ = some (pB b)) :
    Calls Try.prog 73 #[pB b] w fun e w' => e = .returned (.tuple #[]) ∧ w' = w := by
  obtain ⟨j, hj, _⟩ := Option.map_eq_some_iff.1 sizeB
  have u72 := run_underlying Try.underlying98
  have u70 := run_underlying Try.underlying96
  go_enter Try.func73, Try.ntmps73
  go_wp2
  rw [Lib.run_neq_ptr_same w _ Try.underlying96 hj]
  go_wp2
  go_end0
  exact ⟨rfl, rfl⟩
set_option maxHeartbeats 1000000 in
set_option maxRecDepth 100000 in
theorem chk_fresh (b : Nat) (w : World) (h0 : w.cell? ⟨b, 0, none⟩ = some (.pointer none)) (hsh : w.shape? b = some (t_strings_Builder, 2)) (hfz : w.frozen? ⟨b, 0, none⟩ = false) :
    Calls Try.prog 73 #[pB b] w fun e w' => e = .returned (.tuple #[]) ∧ w' = w.setCell ⟨b, 0, none⟩ (pB b) := by
  obtain ⟨j, hj, hjs⟩ := Option.map_eq_some_iff.1 sizeB
  have u72 := run_underlying Try.underlying98
  have u70 := run_underlying Try.underlying96
  have u164 := run_underlying Try.underlying140
  go_enter Try.func73, Try.ntmps73
  go_wp2
  rw [Lib.run_to_unsafe w ⟨b, 0, none⟩ Try.underlying96 Try.underlying140 hj (by rw [hjs]; decide) hsh (Nat.zero_lt_succ 1)]
  simp only [Result.andThen]
  rw [Oper.upon_value]
  go_wp2
  rw [run_callFunc_extern Try.func85 (by kernel_rfl) (by kernel_rfl) (by kernel_rfl) (e := Extern.AbiNoEscape.same) (by kernel_rfl)]
  rw [Lib.run_noEscape]
  simp only [Result.andThen]
  rw [Oper.upon_value]
  go_wp2
  rw [Lib.run_from_unsafe w ⟨b, 0, none⟩ Try.underlying140 Try.underlying96 hj hsh liesB]
  simp only [Result.andThen]
  rw [Oper.upon_value]
  go_wp2
  go_end0
  exact ⟨rfl, rfl⟩
/-- A builder in memory: its block, its row, what it holds. -/
structure SbD (w : World) (b : Nat) (s : Sl) (bs : List UInt8) : Prop where
  blk : ∃ p, (p = Value.pointer none ∨ p = pB b) ∧ w.heap[b]? = some (.cells #[p, s.v] t_strings_Builder (0, 0))
  row : Own w t_uint8 1 s (bs.map byV)
  ne : s.blk ≠ some b
section
variable {w w1 : World} {b : Nat} {s : Sl} {bs : List UInt8}
theorem own_blk_lt {e k : Nat} {xs : List Value} (h : Own w e k s xs) {c : Nat} (hc : s.blk = some c) : c < w.heap.size := by
  obtain ⟨h1, ⟨h2, h3⟩ | ⟨g, cap, cur, h2, h3, h4, h5⟩⟩ := h
  · rw [← Sl.own_blk, h2] at hc; cases hc
  · rw [← Sl.own_blk, h2] at hc; cases hc; exact lt_of_blk h4
theorem own_chg' {e k : Nat} {xs : List Value} {S : Nat → Prop} (h : Own w e k s xs) (x : Chg S w w1) (hn : ∀ c, s.blk = some c → ¬ S c) : Own w1 e k s xs := by
  obtain ⟨h1, h2 | ⟨g, cap, cur, h2, h3, h4, h5⟩⟩ := h
  · exact ⟨h1, .inl h2⟩
  · refine ⟨h1, .inr ⟨g, cap, cur, h2, h3, x.get h4 (hn g ?_), h5⟩⟩
    rw [← Sl.own_blk, h2]; rfl
theorem SbD.chg {S : Nat → Prop} (h : SbD w b s bs) (x : Chg S w w1) (hb : ¬ S b) (hs : ∀ c, s.blk = some c → ¬ S c) : SbD w1 b s bs := by
  obtain ⟨p, hp, h1⟩ := h.blk
  exact ⟨⟨p, hp, x.get h1 hb⟩, own_chg' h.row x hs, h.ne⟩
theorem SbD.ext (h : SbD w b s bs) (x : Ext w w1) : SbD w1 b s bs := h.chg x id fun _ _ => id
theorem SbD.lt (h : SbD w b s bs) : b < w.heap.size := by obtain ⟨p, hp, h1⟩ := h.blk; exact lt_of_blk h1
theorem SbD.new (h : New w b (.cells #[.pointer none, .slice none 0 0] t_strings_Builder (0, 0)) w1) : SbD w1 b ⟨none, 0, 0⟩ [] := ⟨⟨_, .inl rfl, h.here⟩, ⟨rfl, .inl ⟨rfl, rfl⟩⟩, by simp [Sl.blk]⟩
theorem SbD.len (h : SbD w b s bs) : s.n = bs.length := by have := h.row.1; simp at this; omega
theorem k_copyCheck {R : World → Prop} (hS : SbD w b s bs) (h : ∀ w', Chg (fun c => c = b) w w' → w'.heap[b]? = some (.cells #[pB b, s.v] t_strings_Builder (0, 0)) → R w') :
    Calls PP n_strings_Builder_copyCheck #[.pointer (some ⟨b, 0, none⟩)] w fun e w' => e = .returned (.tuple #[]) ∧ R w' := by
  obtain ⟨p, rfl | rfl, hb⟩ := hS.blk
  · refine (chk_fresh b w (cell_blk hb rfl) (by simp [World.shape?, hb]) (frz_blk hb 0)).mono ?_
    rintro e w' ⟨rfl, rfl⟩
    exact ⟨rfl, h _ (Chg.setCell w ⟨b, 0, none⟩ _) (blk_set hb 0 _)⟩
  · refine (chk_used b w (cell_blk hb rfl)).mono ?_
    rintro e w' ⟨rfl, rfl⟩
    exact ⟨rfl, h _ (Chg.refl _) hb⟩
theorem k_WriteString {t : ByteArray} {R : Int → Value → World → Prop} (hS : SbD w b s bs) (hl : bs.length + t.size ≤ 140737488355328)
    (h : ∀ r v w' s', Chg (fun c => c = b ∨ s.blk = some c) w w' → SbD w' b s' (bs ++ t.data.toList) → (s'.blk = s.blk ∨ ∃ c, s'.blk = some c ∧ w.heap.size ≤ c) → R r v w') :
    Calls PP n_strings_Builder_WriteString #[.pointer (some ⟨b, 0, none⟩), .string t] w fun e w' => ∃ (r : Int) (v : Value), e = .returned (.tuple #[.int .i64 r, v]) ∧ R r v w' := by
  refine vc_strings_Builder_WriteString ?_
  unfold VC_strings_Builder_WriteString
  have hn := hS.len
  refine k_copyCheck hS fun w2 c2 hb2 => ⟨b, 0, rfl, s, cell_blk hb2 rfl, _, own_chg' hS.row c2 fun c hc e => hS.ne (e ▸ hc), by omega, fun s' w10 hA => ?_⟩
  have hb10 := hA.chg.get hb2 hS.ne
  refine ⟨⟨_, _, hb10, Nat.le_of_ble_eq_true rfl⟩, fun w17 e17 => ?_⟩
  have hs'b : s'.blk ≠ some b := fun e => by
    rcases hA.loc with h | ⟨c, h, h2⟩
    · exact hS.ne (h ▸ e)
    · rw [h] at e; cases e; have := lt_of_blk hb2; omega
  have c12 := c2.trans hA.chg (S'' := fun c => c = b ∨ s.blk = some c) (fun _ _ h => .inl h) fun _ _ h => .inr h
  refine h _ _ w17 s' (c12.then ((sto_chg e17).mono fun _ _ h => .inl h)) ⟨⟨_, .inr rfl, sto_blk (cs' := #[pB b, s'.v]) e17 hb10⟩, ?_, hs'b⟩ ?_
  · rw [List.map_append]
    exact own_chg' hA.own (sto_chg e17) fun c hc e => hs'b (e ▸ hc)
  · rcases hA.loc with h | ⟨c, h, h2⟩
    · exact .inl h
    · exact .inr ⟨c, h, Nat.le_trans c2.size h2⟩
theorem k_String {lo : Nat} {R : ByteArray → World → Prop} (hS : SbD w b s bs) (hlo : lo ≤ b) (hs : ∀ c, s.blk = some c → lo ≤ c) (h : ∀ w', Below lo w w' → R ⟨bs.toArray⟩ w') :
    Calls PP n_strings_Builder_String #[.pointer (some ⟨b, 0, none⟩)] w fun e w' => ∃ r : ByteArray, e = .returned (.string r) ∧ R r w' := by
  obtain ⟨p, hp, hb⟩ := hS.blk
  have hB : Lib.IsBuilder t_strings_Builder t_uint8 lo b (Lib.byteCells bs) w := by
    have hat : Lib.BuilderAt t_strings_Builder t_uint8 lo b p (Lib.byteCells bs) w := by
      refine ⟨hlo, s.v, hb, ?_, by rw [Sl.own_blk]; exact hS.ne⟩
      have hl : (Lib.byteCells bs).length = s.n := by rw [Lib.byteCells_length, hS.len]
      rw [hl]
      obtain ⟨h1, h2 | ⟨g, cap, cur, h2, h3, h4⟩⟩ := hS.row
      · exact ⟨h1, .inl h2⟩
      · exact ⟨h1, .inr ⟨g, cap, cur, h2, hs g (by rw [← Sl.own_blk, h2]; rfl), h4⟩⟩
    rcases hp with rfl | rfl
    · exact .inl hat
    · exact .inr hat
  refine Calls.mono (Any.Builder_String_any Try.lays169 Try.Builder_Extra_169 lo b bs w hB (Nat.le_trans hlo (Nat.le_of_lt hS.lt))) ?_
  rintro e w' ⟨rfl, hbel⟩
  exact ⟨_, rfl, h w' hbel⟩
theorem Ext.of_low {w0 : World} (x : Ext w0 w) (hb : Below w0.heap.size w w1) : Ext w0 w1 := ⟨hb.os.trans x.os, hb.tape.trans x.tape, hb.output.trans x.output, Nat.le_trans x.size hb.size, fun b h _ => (hb.block b h).trans (x.blk b h id)⟩
end
end Go.Proofs.Ytchjcjocihckpaa.G
