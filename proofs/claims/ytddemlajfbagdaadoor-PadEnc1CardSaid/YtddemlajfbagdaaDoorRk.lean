/-
  Words in slices: the reference's tables, a copy of words, a new row of words.
-/
import Derived.Test.YtddemlajfbagdaaDoorRh2
namespace Go.Proofs.YtddemlajfbagdaaDoor
open Go.RowKit

theorem Tryd.infoU32 : (Tryd.prog.info? 75).map (fun i => (i.zero, i.size, i.bytes)) = some (some (.int .u32 0), 1, 4) := by kernel_rfl
theorem Tryd.infoU64 : (Tryd.prog.info? 78).map (fun i => (i.zero, i.size, i.bytes)) = some (some (.int .u64 0), 1, 8) := by kernel_rfl
theorem make32 (w : World) : (Instr.makeSlice 76 (.int .i64 64) (.int .i64 64)).run Tryd.prog w = .ok (.slice (some ⟨w.heap.size, 0, none⟩) 64 64) (w.alloc (.cells (part U32 (.int .u32 0) [] 64) 75)) := by kernel_rfl
theorem make32' (w : World) : (Instr.makeSlice 76 (.int .i64 80) (.int .i64 80)).run Tryd.prog w = .ok (.slice (some ⟨w.heap.size, 0, none⟩) 80 80) (w.alloc (.cells (part U32 (.int .u32 0) [] 80) 75)) := by kernel_rfl
theorem make64 (w : World) : (Instr.makeSlice 79 (.int .i64 80) (.int .i64 80)).run Tryd.prog w = .ok (.slice (some ⟨w.heap.size, 0, none⟩) 80 80) (w.alloc (.cells (part U64 (.int .u64 0) [] 80) 78)) := by kernel_rfl

/-- A new block of words. -/
structure MadeBlk (w w' : World) (g : Nat) (t : TypeId) (cs : Array Value) : Prop where
  blk : Blk w' g t cs
  ge : w.heap.size ≤ g
  below : Below w.heap.size w w'

set_option maxRecDepth 100000 in
set_option maxHeartbeats 1000000 in
theorem k256_any (w : World) : Calls Tryd.prog 77 #[] w fun e w' => ∃ g, e = .returned (.slice (some ⟨g, 0, none⟩) 64 64) ∧ MadeBlk w w' g 75 ((kTab32.take 64).map U32).toArray := by
  go_enter Tryd.func77, Tryd.ntmps77
  go_wp2
  go_ret
  refine ⟨_, rfl, ?_, Nat.le_refl _, (Below.refl _ _).alloc (Nat.le_refl _) _⟩
  have e : ((kTab32.take 64).map U32).toArray = #[.int .u32 1116352408, .int .u32 1899447441, .int .u32 3049323471, .int .u32 3921009573, .int .u32 961987163, .int .u32 1508970993, .int .u32 2453635748, .int .u32 2870763221, .int .u32 3624381080, .int .u32 310598401, .int .u32 607225278, .int .u32 1426881987, .int .u32 1925078388, .int .u32 2162078206, .int .u32 2614888103, .int .u32 3248222580, .int .u32 3835390401, .int .u32 4022224774, .int .u32 264347078, .int .u32 604807628, .int .u32 770255983, .int .u32 1249150122, .int .u32 1555081692, .int .u32 1996064986, .int .u32 2554220882, .int .u32 2821834349, .int .u32 2952996808, .int .u32 3210313671, .int .u32 3336571891, .int .u32 3584528711, .int .u32 113926993, .int .u32 338241895, .int .u32 666307205, .int .u32 773529912, .int .u32 1294757372, .int .u32 1396182291, .int .u32 1695183700, .int .u32 1986661051, .int .u32 2177026350, .int .u32 2456956037, .int .u32 2730485921, .int .u32 2820302411, .int .u32 3259730800, .int .u32 3345764771, .int .u32 3516065817, .int .u32 3600352804, .int .u32 4094571909, .int .u32 275423344, .int .u32 430227734, .int .u32 506948616, .int .u32 659060556, .int .u32 883997877, .int .u32 958139571, .int .u32 1322822218, .int .u32 1537002063, .int .u32 1747873779, .int .u32 1955562222, .int .u32 2024104815, .int .u32 2227730452, .int .u32 2361852424, .int .u32 2428436474, .int .u32 2756734187, .int .u32 3204031479, .int .u32 3329325298] := by kernel_rfl
  rw [e]
  exact Blk.new w _ _
set_option maxRecDepth 100000 in
set_option maxHeartbeats 1000000 in
theorem k512_any (w : World) : Calls Tryd.prog 79 #[] w fun e w' => ∃ g, e = .returned (.slice (some ⟨g, 0, none⟩) 80 80) ∧ MadeBlk w w' g 78 (kTab.map U64).toArray := by
  go_enter Tryd.func79, Tryd.ntmps79
  go_wp2
  go_ret
  refine ⟨_, rfl, ?_, Nat.le_refl _, (Below.refl _ _).alloc (Nat.le_refl _) _⟩
  have e : (kTab.map U64).toArray = #[.int .u64 4794697086780616226, .int .u64 8158064640168781261, .int .u64 13096744586834688815, .int .u64 16840607885511220156, .int .u64 4131703408338449720, .int .u64 6480981068601479193, .int .u64 10538285296894168987, .int .u64 12329834152419229976, .int .u64 15566598209576043074, .int .u64 1334009975649890238, .int .u64 2608012711638119052, .int .u64 6128411473006802146, .int .u64 8268148722764581231, .int .u64 9286055187155687089, .int .u64 11230858885718282805, .int .u64 13951009754708518548, .int .u64 16472876342353939154, .int .u64 17275323862435702243, .int .u64 1135362057144423861, .int .u64 2597628984639134821, .int .u64 3308224258029322869, .int .u64 5365058923640841347, .int .u64 6679025012923562964, .int .u64 8573033837759648693, .int .u64 10970295158949994411, .int .u64 12119686244451234320, .int .u64 12683024718118986047, .int .u64 13788192230050041572, .int .u64 14330467153632333762, .int .u64 15395433587784984357, .int .u64 489312712824947311, .int .u64 1452737877330783856, .int .u64 2861767655752347644, .int .u64 3322285676063803686, .int .u64 5560940570517711597, .int .u64 5996557281743188959, .int .u64 7280758554555802590, .int .u64 8532644243296465576, .int .u64 9350256976987008742, .int .u64 10552545826968843579, .int .u64 11727347734174303076, .int .u64 12113106623233404929, .int .u64 14000437183269869457, .int .u64 14369950271660146224, .int .u64 15101387698204529176, .int .u64 15463397548674623760, .int .u64 17586052441742319658, .int .u64 1182934255886127544, .int .u64 1847814050463011016, .int .u64 2177327727835720531, .int .u64 2830643537854262169, .int .u64 3796741975233480872, .int .u64 4115178125766777443, .int .u64 5681478168544905931, .int .u64 6601373596472566643, .int .u64 7507060721942968483, .int .u64 8399075790359081724, .int .u64 8693463985226723168, .int .u64 9568029438360202098, .int .u64 10144078919501101548, .int .u64 10430055236837252648, .int .u64 11840083180663258601, .int .u64 13761210420658862357, .int .u64 14299343276471374635, .int .u64 14566680578165727644, .int .u64 15097957966210449927, .int .u64 16922976911328602910, .int .u64 17689382322260857208, .int .u64 500013540394364858, .int .u64 748580250866718886, .int .u64 1242879168328830382, .int .u64 1977374033974150939, .int .u64 2944078676154940804, .int .u64 3659926193048069267, .int .u64 4368137639120453308, .int .u64 4836135668995329356, .int .u64 5532061633213252278, .int .u64 6448918945643986474, .int .u64 6902733635092675308, .int .u64 7801388544844847127] := by kernel_rfl
  rw [e]
  exact Blk.new w _ _

/-- Words that lie in a block, read. -/
def WRow {α : Type} (U : α → Value) (w : World) (g : Nat) (l : List α) : Prop := g < w.heap.size ∧ ∀ k x, l[k]? = some x → w.cell? ⟨g, k, none⟩ = some (U x)
theorem WRow.keep {α : Type} {U : α → Value} {w w' : World} {g : Nat} {l : List α} (h : WRow U w g l) (hs : w.heap.size ≤ w'.heap.size) (hb : w'.heap[g]? = w.heap[g]?) : WRow U w' g l :=
  ⟨Nat.lt_of_lt_of_le h.1 hs, fun k x hx => (World.cell?_of_block (a := ⟨g, k, none⟩) hb).trans (h.2 k x hx)⟩
theorem WRow.below {α : Type} {U : α → Value} {w w' : World} {g B : Nat} {l : List α} (h : WRow U w g l) (hb : Below B w w') (hg : g < B) : WRow U w' g l := h.keep hb.size (hb.block g hg)
theorem Blk.wrow {α : Type} {U : α → Value} {w : World} {g : Nat} {t : TypeId} {l : List α} (h : Blk w g t (l.map U).toArray) : WRow U w g l :=
  ⟨h.lt, fun k x hx => by rw [h.cell k]; simp [hx]⟩
/-- A copy of eight words. -/
structure Copied {α : Type} (U : α → Value) (w w' : World) (g c : Nat) (l : List α) : Prop where
  row : WRow U w' g l
  ge : w.heap.size ≤ g
  cap : 8 ≤ c
  below : Below w.heap.size w w'
theorem WRow.of_own {α : Type} {U : α → Value} {w : World} {base n : Nat} {E : TypeId} {v : Value} {l : List α} (h : w.ownsRow base E 1 v n (l.map U)) (hn : n = l.length) (h0 : 0 < n) : ∃ g c, v = .slice (some ⟨g, 0, none⟩) n c ∧ WRow U w g l ∧ base ≤ g ∧ n ≤ c := by
  obtain ⟨h1, ⟨rfl, h2⟩ | ⟨g, cap, cur, rfl, hg, hh, hnc, hm, hcur, hx⟩⟩ := h
  · omega
  · have hlt : g < w.heap.size := by
      rcases Nat.lt_or_ge g w.heap.size with h' | h'
      · exact h'
      · rw [Array.getElem?_eq_none h'] at hh; cases hh
    refine ⟨g, cap, rfl, ⟨hlt, fun k x hk => ?_⟩, hg, hnc⟩
    rw [cell_of_row w g k cur _ _ hh]
    have hk' : k < n := by
      rcases Nat.lt_or_ge k l.length with h | h
      · omega
      · rw [List.getElem?_eq_none h] at hk; cases hk
    have : (l.map U)[k]? = some (U x) := by simp [hk]
    rw [← hx, Nat.mul_one, List.getElem?_take, if_pos hk'] at this
    simpa using this
theorem adds_of_blk {w : World} {g : Nat} {t : TypeId} {cs : List Value} (h : Blk w g t cs.toArray) : ∀ (j : Nat) (u : Value), cs[j]? = some u → w.cell? ((⟨g, 0, none⟩ : Addr).add j) = some u := by
  intro j u hu
  have := h.cell j
  unfold Addr.add
  split
  · simp_all
  · simpa [hu] using this
/-- append([]uint32(nil), x...) of eight words. -/
theorem wp_copy32 {ops : Array Oper} {rest : List Oper} {o : Oper} {a : Act} {w : World} {Q : Exit → Act → World → Prop} (x : Operand) (g c : Nat) (l : List UInt32) (hb : Blk w g 75 (l.map U32).toArray) (h8 : l.length = 8) (hgd : o.guard = none)
    (ho : o.op = .call { callee := .builtin .append, args := #[.const (.slice none 0 0), x], argTypes := #[76, 76] }) (hx : a.eval x = .slice (some ⟨g, 0, none⟩) 8 c)
    (h : ∀ (g' c' : Nat) (w' : World), Copied U32 w w' g' c' l → wpList Tryd.prog ops Q rest (a.put o.dst (.slice (some ⟨g', 0, none⟩) 8 c')) w') : wpList Tryd.prog ops Q (o :: rest) a w := by
  obtain ⟨i0, hi, hz0, hz1, hz2⟩ := info_parts Tryd.infoU32
  refine wpList_append_own w hgd (.const (.slice none 0 0)) x 76 ho w.heap.size 75 i0 (.int .u32 0) 1 4 Tryd.underlying76 hi hz0 hz1 hz2 rfl (by decide) _ _ _ rfl (World.ownsRow_nil w w.heap.size 75 1) ⟨g, 0, none⟩ 8 c (l.map U32) hx (by simp [h8]) (adds_of_blk hb) ?_ ?_ ?_ ?_ ?_
  · intro u hu; obtain ⟨y, _, rfl⟩ := List.mem_map.1 hu; rfl
  · unfold maxLen; omega
  · omega
  · exact Nat.le_refl _
  · intro v' w' hown hg hv
    obtain ⟨g', c', rfl, hr, hge, hc⟩ := WRow.of_own (l := l) (n := 8) (by simpa using hown) h8.symm (by omega)
    exact h g' c' w' ⟨hr, hge, hc, (Below.refl _ _).grown hg (Nat.le_refl _) (fun k hk => by cases (show (none : Option Nat) = some k from hk))⟩
/-- append([]uint64(nil), x...) of eight words. -/
theorem wp_copy64 {ops : Array Oper} {rest : List Oper} {o : Oper} {a : Act} {w : World} {Q : Exit → Act → World → Prop} (x : Operand) (g c : Nat) (l : List UInt64) (hb : Blk w g 78 (l.map U64).toArray) (h8 : l.length = 8) (hgd : o.guard = none)
    (ho : o.op = .call { callee := .builtin .append, args := #[.const (.slice none 0 0), x], argTypes := #[79, 79] }) (hx : a.eval x = .slice (some ⟨g, 0, none⟩) 8 c)
    (h : ∀ (g' c' : Nat) (w' : World), Copied U64 w w' g' c' l → wpList Tryd.prog ops Q rest (a.put o.dst (.slice (some ⟨g', 0, none⟩) 8 c')) w') : wpList Tryd.prog ops Q (o :: rest) a w := by
  obtain ⟨i0, hi, hz0, hz1, hz2⟩ := info_parts Tryd.infoU64
  refine wpList_append_own w hgd (.const (.slice none 0 0)) x 79 ho w.heap.size 78 i0 (.int .u64 0) 1 8 Tryd.underlying79 hi hz0 hz1 hz2 rfl (by decide) _ _ _ rfl (World.ownsRow_nil w w.heap.size 78 1) ⟨g, 0, none⟩ 8 c (l.map U64) hx (by simp [h8]) (adds_of_blk hb) ?_ ?_ ?_ ?_ ?_
  · intro u hu; obtain ⟨y, _, rfl⟩ := List.mem_map.1 hu; rfl
  · unfold maxLen; omega
  · omega
  · exact Nat.le_refl _
  · intro v' w' hown hg hv
    obtain ⟨g', c', rfl, hr, hge, hc⟩ := WRow.of_own (l := l) (n := 8) (by simpa using hown) h8.symm (by omega)
    exact h g' c' w' ⟨hr, hge, hc, (Below.refl _ _).grown hg (Nat.le_refl _) (fun k hk => by cases (show (none : Option Nat) = some k from hk))⟩
theorem get_getD {α : Type} [OfNat α 0] (l : List α) (k : Nat) (h : k < l.length) : l[k]? = some (l.getD k 0) := by simp [List.getD, h]
theorem ktab64 : (kTab32.take 64).length = 64 := by simp [kTab32, kTab_len]
theorem v8_of {α : Type} [OfNat α 0] (l : List α) (h : l.length = 8) : (V8.of l).list = l := by
  match l, h with
  | [_, _, _, _, _, _, _, _], _ => rfl
theorem right_s (x : UInt32) (n : Nat) (w : World) (h0 : 0 < n) (h1 : n < 32) : Calls Tryd.prog 78 #[U32 x, .int .u64 n] w fun e w' => e = .returned (U32 (rotl32 x (32 - n))) ∧ w' = w :=
  (right_any x n w h0 h1).mono fun _ _ h => ⟨h.1, h.2.symm⟩
theorem rightL_s (x : UInt64) (n : Nat) (w : World) (h0 : 0 < n) (h1 : n < 64) : Calls Tryd.prog 80 #[U64 x, .int .u64 n] w fun e w' => e = .returned (U64 (rotl64 x (64 - n))) ∧ w' = w :=
  (rightL_any x n w h0 h1).mono fun _ _ h => ⟨h.1, h.2.symm⟩
theorem right_7 (x : UInt32) (w : World) : Calls Tryd.prog 78 #[U32 x, .int .u64 7] w fun e w' => e = .returned (U32 (rotl32 x 25)) ∧ w' = w := right_s x 7 w (by decide) (by decide)
theorem right_18 (x : UInt32) (w : World) : Calls Tryd.prog 78 #[U32 x, .int .u64 18] w fun e w' => e = .returned (U32 (rotl32 x 14)) ∧ w' = w := right_s x 18 w (by decide) (by decide)
theorem right_17 (x : UInt32) (w : World) : Calls Tryd.prog 78 #[U32 x, .int .u64 17] w fun e w' => e = .returned (U32 (rotl32 x 15)) ∧ w' = w := right_s x 17 w (by decide) (by decide)
theorem right_19 (x : UInt32) (w : World) : Calls Tryd.prog 78 #[U32 x, .int .u64 19] w fun e w' => e = .returned (U32 (rotl32 x 13)) ∧ w' = w := right_s x 19 w (by decide) (by decide)
theorem right_6 (x : UInt32) (w : World) : Calls Tryd.prog 78 #[U32 x, .int .u64 6] w fun e w' => e = .returned (U32 (rotl32 x 26)) ∧ w' = w := right_s x 6 w (by decide) (by decide)
theorem right_11 (x : UInt32) (w : World) : Calls Tryd.prog 78 #[U32 x, .int .u64 11] w fun e w' => e = .returned (U32 (rotl32 x 21)) ∧ w' = w := right_s x 11 w (by decide) (by decide)
theorem right_25 (x : UInt32) (w : World) : Calls Tryd.prog 78 #[U32 x, .int .u64 25] w fun e w' => e = .returned (U32 (rotl32 x 7)) ∧ w' = w := right_s x 25 w (by decide) (by decide)
theorem right_2 (x : UInt32) (w : World) : Calls Tryd.prog 78 #[U32 x, .int .u64 2] w fun e w' => e = .returned (U32 (rotl32 x 30)) ∧ w' = w := right_s x 2 w (by decide) (by decide)
theorem right_13 (x : UInt32) (w : World) : Calls Tryd.prog 78 #[U32 x, .int .u64 13] w fun e w' => e = .returned (U32 (rotl32 x 19)) ∧ w' = w := right_s x 13 w (by decide) (by decide)
theorem right_22 (x : UInt32) (w : World) : Calls Tryd.prog 78 #[U32 x, .int .u64 22] w fun e w' => e = .returned (U32 (rotl32 x 10)) ∧ w' = w := right_s x 22 w (by decide) (by decide)
theorem rightL_1 (x : UInt64) (w : World) : Calls Tryd.prog 80 #[U64 x, .int .u64 1] w fun e w' => e = .returned (U64 (rotl64 x 63)) ∧ w' = w := rightL_s x 1 w (by decide) (by decide)
theorem rightL_8 (x : UInt64) (w : World) : Calls Tryd.prog 80 #[U64 x, .int .u64 8] w fun e w' => e = .returned (U64 (rotl64 x 56)) ∧ w' = w := rightL_s x 8 w (by decide) (by decide)
theorem rightL_19 (x : UInt64) (w : World) : Calls Tryd.prog 80 #[U64 x, .int .u64 19] w fun e w' => e = .returned (U64 (rotl64 x 45)) ∧ w' = w := rightL_s x 19 w (by decide) (by decide)
theorem rightL_61 (x : UInt64) (w : World) : Calls Tryd.prog 80 #[U64 x, .int .u64 61] w fun e w' => e = .returned (U64 (rotl64 x 3)) ∧ w' = w := rightL_s x 61 w (by decide) (by decide)
theorem rightL_14 (x : UInt64) (w : World) : Calls Tryd.prog 80 #[U64 x, .int .u64 14] w fun e w' => e = .returned (U64 (rotl64 x 50)) ∧ w' = w := rightL_s x 14 w (by decide) (by decide)
theorem rightL_18 (x : UInt64) (w : World) : Calls Tryd.prog 80 #[U64 x, .int .u64 18] w fun e w' => e = .returned (U64 (rotl64 x 46)) ∧ w' = w := rightL_s x 18 w (by decide) (by decide)
theorem rightL_41 (x : UInt64) (w : World) : Calls Tryd.prog 80 #[U64 x, .int .u64 41] w fun e w' => e = .returned (U64 (rotl64 x 23)) ∧ w' = w := rightL_s x 41 w (by decide) (by decide)
theorem rightL_28 (x : UInt64) (w : World) : Calls Tryd.prog 80 #[U64 x, .int .u64 28] w fun e w' => e = .returned (U64 (rotl64 x 36)) ∧ w' = w := rightL_s x 28 w (by decide) (by decide)
theorem rightL_34 (x : UInt64) (w : World) : Calls Tryd.prog 80 #[U64 x, .int .u64 34] w fun e w' => e = .returned (U64 (rotl64 x 30)) ∧ w' = w := rightL_s x 34 w (by decide) (by decide)
theorem rightL_39 (x : UInt64) (w : World) : Calls Tryd.prog 80 #[U64 x, .int .u64 39] w fun e w' => e = .returned (U64 (rotl64 x 25)) ∧ w' = w := rightL_s x 39 w (by decide) (by decide)
end Go.Proofs.YtddemlajfbagdaaDoor
