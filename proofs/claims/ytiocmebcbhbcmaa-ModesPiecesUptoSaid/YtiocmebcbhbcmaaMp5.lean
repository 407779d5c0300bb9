/-
  'baileylaw6.ModesPieces' returns true, where what it reads is of no great bulk: pieces of an iterator give, together, what comes out at once.
-/
import Derived.Test.YtiocmebcbhbcmaaMp4
import Derived.Lib.SlBytesConst
namespace Go.Proofs.Ytiocmebcbhbcmaa
set_option maxRecDepth 100000
open Go.RowKit
attribute [local go_sem] Oper.semAt_some

theorem old_set {w W : World} {R : Nat} {v : Value} (h : Old w W) (hR : w.heap.size ≤ R) : Old w (W.setCell ⟨R, 0, none⟩ v) := below_turn h ((Turn.refl [R] W).setCell (.inl (by simp)) _) (by intro t ht; simp at ht; omega) h.size
theorem refM_len (mo : Nat) (enc : Bool) (k p al : List UInt8) (hk : keyOk k) (hp : parOk mo p) (h1 : 1 ≤ mo) (h5 : mo ≤ 5) : (refM mo enc (encL (rks k) ((rks k).length / 16)) (decL (rks k) ((rks k).length / 16)) p al).1.length ≤ al.length + 16 := by
  have hE := fun l hl => (encdec_len k hk l hl).1
  have hD := fun l hl => (encdec_len k hk l hl).2
  unfold refM
  by_cases h12 : mo = 1 ∨ mo = 2
  · rw [if_pos h12]
    have hpl : mo ≠ 1 → p.length = 16 := fun h => by
      unfold parOk at hp
      rw [if_neg h, if_neg (by omega), if_neg (by omega)] at hp
      exact hp
    have := blkN_len mo enc _ _ hE hD (al.length / 16) p al hpl (by omega)
    show (blkN mo enc _ _ (al.length / 16) p al).1.length ≤ _
    omega
  · rw [if_neg h12]
    by_cases h3 : mo = 3
    · subst h3
      rw [if_pos rfl]
      have hpl : p.length = 16 := hp
      cases enc
      · rw [if_neg (by decide)]
        have hx := blkN_len 2 false _ _ hE hD (al.length / 16) p al (fun _ => hpl) (by omega)
        obtain ⟨x, hxe⟩ : ∃ x, (blkN 2 false (encL (rks k) ((rks k).length / 16)) (decL (rks k) ((rks k).length / 16)) (al.length / 16) p al).1 = x := ⟨_, rfl⟩
        rw [hxe] at hx ⊢
        unfold cutP
        split
        · show (x.take _).length ≤ _
          rw [List.length_take]; omega
        · unfold unpadF
          split
          · show (x.take _ ++ (stripF (x.drop (x.length - 16))).1).length ≤ _
            have h8 : (stripF (x.drop (x.length - 16))).1.length ≤ 16 := by
              unfold stripF
              split
              · show ((x.drop (x.length - 16)).take _).length ≤ 16
                rw [List.length_take, List.length_drop]; omega
              · exact Nat.zero_le _
            rw [List.length_append, List.length_take]; omega
          · show (x.take _).length ≤ _
            rw [List.length_take]; omega
      · rw [if_pos rfl]
        have := blkN_len 2 true _ _ hE hD ((al.length + (16 - al.length % 16)) / 16) p (al ++ List.replicate (16 - al.length % 16) (UInt8.ofNat (16 - al.length % 16))) (fun _ => hpl) (by rw [List.length_append, List.length_replicate]; omega)
        show (blkN 2 true _ _ ((al.length + (16 - al.length % 16)) / 16) p _).1.length ≤ _
        omega
    · rw [if_neg h3]
      by_cases h4 : mo = 4
      · rw [if_pos h4]
        have := cnt1_le (encL (rks k) ((rks k).length / 16)) (p.getD 0 0).toNat al [] (p.drop 1)
        show (cnt1 _ _ al [] _).1.length ≤ _
        omega
      · rw [if_neg h4]
        obtain rfl : mo = 5 := by omega
        have hg : gcmOk p := hp
        have hO : ∀ b, (gcmO (encL (rks k) ((rks k).length / 16)) p b).length ≤ b.length := fun b => cnt1_le _ _ b [] _
        cases enc
        · rw [if_neg (by decide)]
          unfold openF
          split
          · exact Nat.zero_le _
          · split
            · have h9 := hO (al.take (al.length - 16))
              rw [List.length_take] at h9
              show (gcmO _ p (al.take (al.length - 16))).length ≤ _
              omega
            · exact Nat.zero_le _
        · rw [if_pos rfl]
          show (gcmO _ p al ++ gcmT _ p _).length ≤ _
          have h9 := hO al
          have h8 : (gcmT (encL (rks k) ((rks k).length / 16)) p (gcmO (encL (rks k) ((rks k).length / 16)) p al)).length = 16 := by
            unfold gcmT
            exact tagL_len _ _ _ _ (hE _ (gcmJ_len _ _ hg))
          rw [List.length_append]; omega
theorem rd_ne_loop {w : World} {A : Option Addr} {m c x : Nat} {l : List UInt8} (h : Rd w A m c l) (hm : 0 < m) (hl : ∃ r, w.heap[x]? = some (.loop r)) : ∀ ad, A = some ad → ad.block ≠ x := by
  intro ad e he
  obtain ⟨r, hr⟩ := hl
  obtain ⟨b, off, rfl, hat⟩ := h.addr hm
  cases e
  obtain ⟨z, hz⟩ : ∃ z, l[0]? = some z := ⟨_, List.getElem?_eq_getElem (by have := h.1; omega)⟩
  have := hat.2 0 z hz
  simp only at he
  subst he
  simp [World.cell?, hr] at this
theorem wp_range1G (q j : Nat) {P : Program} {g : Operand} {ps : Array Tmp} {assign body : Code} {Q : Exit → Act → World → Prop} {a : Act} {w : World}
    {gf : Nat} {lb : Array Value} {Arg : Nat → Array Value → World → Prop} {N : Nat} {Start : List Nat → World → Prop} {G : List Nat} {B : Nat}
    (hg : a.eval g = .func (.func gf) #[] lb) (eg : ∀ args w, (callFunc gf args).run P w = .ok (.enter gf args) w)
    (hit : IterG P gf lb Arg N Start B) (hB : B ≤ w.heap.size) (hps : ∀ k args W, Arg k args W → args.size = ps.size) (hG : ∀ t ∈ G, t < w.heap.size)
    (I : Nat → List Nat → World → Prop)
    (hI : ∀ k G1 G2 W1 W2, I k G1 W1 → Turn G1 W1 W2 → (∀ x ∈ G2, x ∈ G1 ∨ W1.heap.size ≤ x) → I k G2 W2)
    (hIl : ∀ k G1 W1 W2, I k G1 W1 → (∃ r, W1.heap[w.heap.size + 1]? = some (.loop r)) → Turn [w.heap.size + 1] W1 W2 → I k G1 W2)
    (hA : ∀ k args W1 W2, Arg k args W1 → (∃ r, W1.heap[w.heap.size + 1]? = some (.loop r)) → Turn [w.heap.size + 1] W1 W2 → Arg k args W2)
    (h0 : I 0 G w) (hS1 : ∀ W, Turn [] w W → Start G W)
    (hassign : ∀ (l : Nat) (args : Array Value) (k : Nat) (W : World) (K : Act → World → Prop), Arg k args W →
      K { tmps := ((ps.zip args).foldl (fun t (p, v) => t.setIfInBounds p v) a.tmps).setIfInBounds q (args.getD j undef), defers := [] } W →
      assign.wpIn (Fence.wide.inRound l) 2 P (Exit.then K (fun _ _ _ => False)) { tmps := (ps.zip args).foldl (fun t (p, v) => t.setIfInBounds p v) a.tmps, defers := [] } W)
    (hbody : ∀ (l k : Nat) (args : Array Value) (G1 : List Nat) (W : World), k < N → w.heap.size + 1 < W.heap.size → I k G1 W → Arg k args W → w.heap.size ∉ G1 → w.heap.size + 1 ∉ G1 → (∀ x ∈ G1, x < W.heap.size) →
      body.wpIn (Fence.wide.inRound l) 2 P (roundEndsG w.heap.size I k G1 B W) { tmps := ((ps.zip args).foldl (fun t (p, v) => t.setIfInBounds p v) a.tmps).setIfInBounds q (args.getD j undef), defers := [] } W)
    (hdone : ∀ (G1 : List Nat) (W : World), w.heap.size + 1 < W.heap.size → I N G1 W → W.heap[w.heap.size]? = some (.deferred (some [])) → Q .normal { a with defers := { target := .collected w.heap.size, args := #[] } :: a.defers } W) :
    (Code.rangeFunc g ps assign body).wp P Q a w :=
  wp_rangeG hg eg hit hB hps hG I hI hIl hA h0 hS1 (fun args => { tmps := ((ps.zip args).foldl (fun t (p, v) => t.setIfInBounds p v) a.tmps).setIfInBounds q (args.getD j undef), defers := [] }) hassign hbody hdone
set_option maxHeartbeats 16000000 in
theorem modesPieces_any (mode : Int) (enc : Bool) (A P B : Option Addr) (ma ca mp cp m cb : Nat) (k p : List UInt8) (ls0 : List (List UInt8)) (w : World) (hk : Rd w A ma ca k) (hp : Rd w P mp cp p) (hmp : mp ≤ 2000000) (hb0 : RowsAt w B m ls0) (hmc : m ≤ cb) (hcb : cb ≤ maxLen) (htot0 : ls0.flatten.length ≤ 2000000) :
    Calls Try.prog 8 #[.int .i64 mode, .bool enc, .slice A ma ca, .slice P mp cp, .slice B m cb] w (LawRes w) := by
  obtain ⟨w1, hw1⟩ : ∃ w1, w.alloc (.cells #[.bool false] 4) = w1 := ⟨_, rfl⟩
  obtain ⟨R, hR⟩ : ∃ R, w.heap.size = R := ⟨_, rfl⟩
  have hbR : Blk w1 R 4 #[.bool false] := by rw [← hw1, ← hR]; exact Blk.new w _ _
  have hO1 : Old w w1 := by rw [← hw1]; exact (Old.refl w).alloc _
  have hbeg := mbegun_any w1
  obtain ⟨m8, hm8⟩ : ∃ x, min m 8 = x := ⟨_, rfl⟩
  have hm8c : m8 ≤ cb := by omega
  have hm8b : m8 ≤ 8 := by omega
  obtain ⟨ls, hls⟩ : ∃ x, ls0.take m8 = x := ⟨_, rfl⟩
  have hb : RowsAt w B m8 ls := by rw [← hls]; exact hb0.front (by omega)
  have htot : ls.flatten.length ≤ 2000000 := by rw [← hls]; exact Nat.le_trans (take_flat_le ls0 m8) htot0
  have hmi : (m : Int) ≤ 9223372036854775807 := by unfold maxLen at hcb; omega
  have hm8m : m8 ≤ maxLen := by unfold maxLen; omega
  have hll := hb.1
  have hsl8 : 8 < m → ∀ W, (Instr.slice 30 (.slice B m cb) none (some (.int .i64 8)) none).run Try.prog W = .ok (.slice B 8 cb) W := fun h W => slice_toR B m cb 8 (by omega) W
  have HH := Lib.hid (And.intro hk (And.intro hp (And.intro hb (And.intro htot (And.intro hbR (And.intro hO1 (And.intro hll hm8m)))))))
  have HM8 := Lib.hid (And.intro hm8 hsl8)
  have HRw := Lib.hid hR
  have HBe := Lib.hid hbeg
  clear hk hp hb htot hbR hO1 hll hm8m hm8 hsl8 hb0 hls htot0 hbeg hcb hmc
  refine calls_of_marks Try.func8 rfl ?_
  simp only [Try.ntmps8, List.size_toArray, List.length_cons, List.length_nil, Nat.reduceAdd, Nat.reduceSub, Array.replicate_succ, Array.replicate_zero, List.push_toArray, List.append_toArray, List.nil_append, List.cons_append]
  go_wp2_with fail
  refine HBe.out.mono ?_
  rintro e w2 ⟨rfl, hO2⟩
  have H2 := Lib.hid (And.intro (HH.out.2.2.2.2.1.below hO2) (Old.trans HH.out.2.2.2.2.2.1 hO2))
  clear hO2
  go_upto_if 25 with fail
  go_cut [4] from 12 to 107 (fun v wx => v = .slice B m8 cb ∧ w2 = wx)
  case first =>
    by_cases h8 : 8 < m
    · have h8i : (m : Int) > 8 := by omega
      have h8d : decide ((m : Int) > 8) = true := decide_eq_true h8i
      have hsl := HM8.out.2 h8
      have hm88 : m8 = 8 := by have := HM8.out.1; omega
      subst hm88
      go_wp2_with fail
      go_meet
      case rel => exact ⟨rfl, rfl⟩
    · have h8i : ¬ (m : Int) > 8 := by omega
      have h8d : decide ((m : Int) > 8) = false := decide_eq_false h8i
      have hm88 : m8 = m := by have := HM8.out.1; omega
      subst hm88
      go_wp2_with fail
      go_meet
      case rel => exact ⟨rfl, rfl⟩
  case rest =>
    obtain ⟨rfl, rfl⟩ := hcut
    clear HM8
    go_wp2_with fail
    go_loopw [12, 13] (fun v i wr => ∃ (j n' c' : Nat) (A' : Option Addr), j ≤ m8 ∧ i = .int .i64 (j : Nat) ∧ v = .slice A' n' c' ∧ Own wr w2.heap.size (.slice A' n' c') (ls.take j).flatten ∧ Old w2 wr) (fun _ i _ => m8 - (intOf i).toNat)
    case atStart => exact ⟨0, 0, 0, none, by omega, rfl, rfl, Own.nil _ _, Old.refl _⟩
    case round =>
      obtain ⟨j, n1, c1, A1, hj, rfl, rfl, hO, hB⟩ := hrel
      by_cases hlt : j < m8
      · have hji : (j : Int) < m8 := by omega
        have hjd : decide ((j : Int) < m8) = true := decide_eq_true hji
        obtain ⟨hpl, hz0 | ⟨b0, off0, rfl, hb0, hrow⟩⟩ := HH.out.2.2.1
        · omega
        obtain ⟨l, hl⟩ : ∃ l, ls[j]? = some l := ⟨_, List.getElem?_eq_getElem (by omega)⟩
        obtain ⟨Aj, mj, cj, hcj, hej⟩ := hrow j l hl
        have hold : Old w wr := Old.trans H2.out.2 hB
        have hcj' : wr.cell? ⟨b0, off0 + j, none⟩ = some (.slice Aj mj cj) := (Below.cell (p := ⟨b0, off0 + j, none⟩) hold hb0).trans hcj
        have hal := take_flat ls j l hl
        have hlen : (ls.take j).flatten.length + l.length ≤ 2000000 := by
          have h1 := take_flat_le ls (j + 1)
          have h2 := HH.out.2.2.2.1
          rw [hal, List.length_append] at h1
          omega
        have HE := Lib.hid (And.intro (hej.below hold) (And.intro hO (And.intro hB (And.intro hal (And.intro hlen hlt)))))
        clear hpl hrow hcj hej hl hO hB hold hal hlen hlt hj hb0
        go_wp2_with (at_builtin; go_must (refine wp_app2E (.tmp 34) (.tmp 38) w2.heap.size (.slice A1 n1 c1) _ HE.out.2.1 HE.out.2.2.1.size Aj mj cj l HE.out.1 (by have := HE.out.2.2.2.2.1; omega) rfl rfl rfl rfl ?_); intro A4 n4 c4 w4 hn4 hG4; have H4 := Lib.hid hG4; clear hG4)
        go_roundw
        case rel => exact ⟨j + 1, n4, c4, A4, HE.out.2.2.2.2.2, by go_num, rfl, by rw [HE.out.2.2.2.1]; exact H4.out.own, Below.trans HE.out.2.2.1 H4.out.below⟩
        case measure => have := HE.out.2.2.2.2.2; simp [intOf]; omega
      · obtain rfl : j = m8 := by omega
        have hji : ¬ (j : Int) < j := by omega
        have hjd : decide ((j : Int) < j) = false := decide_eq_false hji
        rw [List.take_of_length_le (by have := HH.out.2.2.2.2.2.2.1; omega)] at hO
        obtain ⟨al, hale⟩ : ∃ al, ls.flatten = al := ⟨_, rfl⟩
        rw [hale] at hO
        have hn1l := hO.len
        have hn1t : n1 ≤ 2000000 := by rw [hn1l, ← hale]; exact HH.out.2.2.2.1
        have hn1i : (n1 : Int) ≤ 2000000 := by omega
        have hoR : Blk wr R 4 #[.bool false] := H2.out.1.below hB
        have hWr : Old w wr := Old.trans H2.out.2 hB
        have H3 := Lib.hid (And.intro hO (And.intro hWr (And.intro hoR (And.intro hale (And.intro hn1l H2.out.2.size)))))
        have hks := HH.out.1.below hWr
        have hps := HH.out.2.1.below hWr
        clear hO hB hj hlt hWr hoR hn1l
        by_cases hmay : mayF mode k p = 0
        · obtain ⟨mo, rfl, h1, h5, hko, hpo⟩ := mayF_ok mode k p hmay
          have hnew := new_good mo enc A P ma ca mp cp k p wr hks hps hmp h1 h5 hko hpo
          have HN := Lib.hid (And.intro hnew (And.intro hko hpo))
          clear hnew hko hpo hmay hks hps
          go_wp2_with fail
          refine HN.out.1.mono ?_
          rintro e w4 ⟨d, rfl, G, hS4, hG4, hB4⟩
          have H4 := Lib.hid (And.intro hS4 (And.intro hG4 hB4))
          have c0 := (H3.out.2.2.1.below hB4).cell 0
          have f0 := (H3.out.2.2.1.below hB4).frozen 0
          simp only [List.getElem?_toArray, List.getElem?_cons_zero] at c0
          clear hS4 hG4 hB4
          by_cases hn2 : 200 < n1
          · have hni : (n1 : Int) > 200 := by omega
            have hnd : decide ((n1 : Int) > 200) = true := decide_eq_true hni
            go_wp2_with fail
            exact ret_bare rfl (res_cell rfl rfl ((H3.out.2.2.1.below H4.out.2.2).set_ 0 _)) ⟨rfl, old_set (Old.trans H3.out.2.1 H4.out.2.2) (by have := HRw.out; omega)⟩
          · have hni : ¬ (n1 : Int) > 200 := by omega
            have hnd : decide ((n1 : Int) > 200) = false := decide_eq_false hni
            by_cases hp3 : 300 < mp
            · have hqi : (mp : Int) > 300 := by omega
              have hqd : decide ((mp : Int) > 300) = true := decide_eq_true hqi
              go_wp2_with fail
              exact ret_bare rfl (res_cell rfl rfl ((H3.out.2.2.1.below H4.out.2.2).set_ 0 _)) ⟨rfl, old_set (Old.trans H3.out.2.1 H4.out.2.2) (by have := HRw.out; omega)⟩
            · have hqi : ¬ (mp : Int) > 300 := by omega
              have hqd : decide ((mp : Int) > 300) = false := decide_eq_false hqi
              have hn200 : n1 ≤ 200 := by omega
              obtain ⟨s, hs⟩ : ∃ s, PSof mo enc k p = s := ⟨_, rfl⟩
              have hfront := fun W A' n' c' (al' : List UInt8) (hO : Old w W) (hr : Rd W A' n' c' al') (hn : n' ≤ 40000) => rfront_any mo enc A P A' ma ca mp cp n' c' k p al' W (HH.out.1.below hO) (HH.out.2.1.below hO) hr HN.out.2.1 HN.out.2.2 h1 h5 (by omega) hn
              obtain ⟨Rv, e1, e2, e3⟩ := fin_ref mo enc k p al HN.out.2.1 HN.out.2.2 h1 h5
              have hall := ralln_any mo enc A P A1 ma ca mp cp n1 c1 k p al w4 (HH.out.1.below (Old.trans H3.out.2.1 H4.out.2.2)) (HH.out.2.1.below (Old.trans H3.out.2.1 H4.out.2.2)) (H3.out.1.rd.below H4.out.2.2) HN.out.2.1 HN.out.2.2 h1 h5 (by omega) (by omega)
              rw [e1] at hall
              have hlen5 := refM_len mo enc k p al HN.out.2.1 HN.out.2.2 h1 h5
              rw [e1, ← H3.out.2.2.2.2.1] at hlen5
              have hc0 : s.mode = 4 ∨ s.mode = 5 → s.c0.length = 16 := fun h => by rw [← hs] at h ⊢; exact (PSof mo enc k p).c0_len HN.out.2.2 h
              have hdl : s.data.length ≤ 100000 := by
                have hl := HH.out.2.1.1
                rw [← hs]
                show (p.drop _).length ≤ 100000
                rw [List.length_drop]
                omega
              have hpre : ∀ a l, s.front (a ++ l) = s.front a ++ outF s a l := fun a l => by rw [← hs]; exact front_pre mo enc k p a l HN.out.2.1 HN.out.2.2 h1 h5
              have hflat := prs_flat s hpre ls []
              have hfal : (s.front al).length ≤ n1 := by
                rw [← hs, front_len mo enc k p al HN.out.2.1 HN.out.2.2 h1 h5, ← H3.out.2.2.2.2.1]
                have := ready_waits (PSof mo enc k p) n1
                have h : readyF mo enc n1 + (PSof mo enc k p).waits n1 = n1 := this
                omega
              rw [hs] at e2 e3
              simp only [hs] at hfront
              rw [PS.front_nil, List.nil_append, List.nil_append, H3.out.2.2.2.1] at hflat
              obtain ⟨full, hfull⟩ : ∃ f, prs s [] ls = f := ⟨_, rfl⟩
              have hne : ∀ o ∈ full, o ≠ [] := fun o ho => prs_ne s ls [] o (by rw [hfull]; exact ho)
              have hit : ∀ bp bs bx, IterG Try.prog 53 #[.pointer (some ⟨bp, 0, none⟩), .pointer (some ⟨bs, 0, none⟩)] (pArg full) full.length (pStart w s d bp bs bx B j cb) w.heap.size := fun bp bs bx => by
                have := pieces_iter w bp bs bx d s B j cb ls HH.out.2.2.1 HH.out.2.2.2.2.2.2.2 hc0 hdl (by have := H3.out.2.2.2.1; rw [this, ← H3.out.2.2.2.2.1]; omega)
                rwa [hfull] at this
              rw [hfull] at hflat
              obtain ⟨W5, v5⟩ := Rv
              simp only at e2 e3 hlen5
              have HLen := Lib.hid hlen5
              clear hlen5
              have hst := H4.out.1
              rw [hs] at hst
              have HF := Lib.hid (And.intro hall (And.intro e2 (And.intro e3 (And.intro hflat (And.intro hne (And.intro hit (And.intro hfront (And.intro hfal (And.intro hst hfull)))))))))
              have hsne := seqFN
              clear hall e1 e2 e3 hflat hne hit hfront hfal hc0 hdl hpre hst hfull hs
              go_wp2_with fail
              refine HF.out.1.mono ?_
              rintro e w5 ⟨A2, n2, c2, rfl, hR2, hA2, hB5⟩
              have H5 := Lib.hid (And.intro hR2 (And.intro hA2 hB5))
              clear hR2 hA2 hB5 c0 f0
              go_wp2_with fail
              refine (given_any B j cb w5).mono ?_
              rintro e w6 ⟨rfl, hw6⟩
              go_wp2_with fail
              refine (pieces_fn (some ⟨d, 0, none⟩) _ _ w6).mono ?_
              rintro e w7 ⟨rfl, hw7⟩
              obtain ⟨w8, hw8⟩ : ∃ w8, w7.alloc (.cells #[.slice none 0 0] 22) = w8 := ⟨_, rfl⟩
              obtain ⟨bx, hbx⟩ : ∃ x, w5.heap.size = x := ⟨_, rfl⟩
              have hs6 : w6.heap.size = bx + 1 := by rw [← hw6, ← hbx]; simp
              have hs7 : w7.heap.size = bx + 3 := by rw [← hw7]; simp [hs6]
              have hs8 : w8.heap.size = bx + 4 := by rw [← hw8]; simp [hs7]
              have b6 : Old w5 w6 := by rw [← hw6]; exact (Old.refl _).alloc _
              have b7 : Old w6 w7 := by rw [← hw7]; exact ((Old.refl _).alloc _).alloc _
              have b8 : Old w7 w8 := by rw [← hw8]; exact (Old.refl _).alloc _
              have k3 : Blk w6 bx 30 #[.slice B j cb] := by rw [← hw6, ← hbx]; exact Blk.new w5 _ _
              have k2 : Blk w7 (bx + 1) 31 #[.pointer (some ⟨d, 0, none⟩)] := by
                rw [← hw7, ← hs6]; exact (Blk.new w6 _ _).below ((Old.refl _).alloc _)
              have k1 : Blk w7 (bx + 2) 45 #[.func (.func 54) #[] #[.pointer (some ⟨bx, 0, none⟩)]] := by
                have h := Blk.new (w6.alloc (.cells #[.pointer (some ⟨d, 0, none⟩)] 31)) 45 #[.func (.func 54) #[] #[.pointer (some ⟨w5.heap.size, 0, none⟩)]]
                rw [hw7, hbx] at h
                simpa [hs6] using h
              have k4 : Blk w8 (bx + 3) 22 #[.slice none 0 0] := by rw [← hw8, ← hs7]; exact Blk.new w7 _ _
              have o8 : Old w5 w8 := Old.trans (Old.trans b6 b7) b8
              have HW := Lib.hid (And.intro (k1.below b8) (And.intro (k2.below b8) (And.intro (k3.below (Old.trans b7 b8)) (And.intro k4 (And.intro o8 hs8)))))
              clear k1 k2 k3 k4 o8 b6 b7 b8
              go_wp2_with fail
              obtain ⟨D, hD⟩ : ∃ D, w8.heap.size = D := ⟨_, rfl⟩
              have hDb : D = bx + 4 := hD.symm.trans hs8
              have hwr : Old w w5 := Old.trans (Old.trans H3.out.2.1 H4.out.2.2) H5.out.2.2
              have hszw : w.heap.size ≤ wr.heap.size := H3.out.2.1.size
              have hszr : wr.heap.size ≤ w4.heap.size := H4.out.2.2.size
              have hsz4 : w4.heap.size ≤ bx := by rw [← hbx]; exact H5.out.2.2.size
              have hRl := H3.out.2.2.1.lt
              have hRw' := HRw.out
              have hL0 : LCI w D R (bx + 3) A1 n1 c1 al A2 n2 c2 W5 [] ((bx + 1 + 1) :: (bx + 1) :: bx :: G) w8 none 0 0 := by
                refine ⟨(H3.out.2.2.1.below (Old.trans H4.out.2.2 H5.out.2.2)).below HW.out.2.2.2.2.1, HW.out.2.2.2.1, Own.nil _ _, (H3.out.1.rd.below (Old.trans H4.out.2.2 H5.out.2.2)).below HW.out.2.2.2.2.1, H5.out.1.below HW.out.2.2.2.2.1,
                  fun g hg => by simp [Value.ownBlock] at hg, ⟨?_, ?_, fun ad e hm => ?_, fun ad e hm => ?_⟩, ⟨by omega, by omega, by omega, by omega, by omega, fun ad e => ?_, fun ad e => ?_⟩, Old.trans hwr HW.out.2.2.2.2.1, fun x hx => ?_, by omega⟩
                · intro hm
                  simp only [List.mem_cons] at hm
                  rcases hm with h | h | h | h
                  · omega
                  · omega
                  · omega
                  · have := (H4.out.2.1 _ h).1; omega
                · intro hm
                  simp only [List.mem_cons] at hm
                  rcases hm with h | h | h | h
                  · omega
                  · omega
                  · omega
                  · have := (H4.out.2.1 _ h).2; omega
                · have h1 := H3.out.1.rd.lt ad e
                  simp only [List.mem_cons] at hm
                  rcases hm with h | h | h | h
                  · omega
                  · omega
                  · omega
                  · have := (H4.out.2.1 _ h).1; omega
                · have h1 := H5.out.1.lt ad e
                  have h2 := H5.out.2.1 ad e
                  rw [hbx] at h1
                  simp only [List.mem_cons] at hm
                  rcases hm with h | h | h | h
                  · omega
                  · omega
                  · omega
                  · have := (H4.out.2.1 _ h).2; omega
                · have h1 := H3.out.1.rd.lt ad e; omega
                · have h1 := H5.out.1.lt ad e; rw [hbx] at h1; omega
                · simp only [List.mem_cons] at hx
                  rcases hx with h | h | h | h
                  · omega
                  · omega
                  · omega
                  · have := (H4.out.2.1 _ h).1; omega
              have hSt : ∀ W, Turn [] w8 W → pStart w s d (bx + 1 + 1) (bx + 1) bx B j cb ((bx + 1 + 1) :: (bx + 1) :: bx :: G) W := fun W ht => by
                have hO : Old w8 W := ht.below
                have hz := ht.size
                refine ⟨⟨G, (((HF.out.2.2.2.2.2.2.2.2.1).below H5.out.2.2).below HW.out.2.2.2.2.1).below hO, fun x hx => ?_⟩, ⟨by simp, by simp, by simp⟩, HW.out.1.below hO, HW.out.2.1.below hO, HW.out.2.2.1.below hO, Old.trans (Old.trans hwr HW.out.2.2.2.2.1) hO, fun x hx => ?_⟩
                · obtain ⟨a1, a2⟩ := H4.out.2.1 x hx
                  exact ⟨by simp [hx], by omega, by omega, by omega, by omega, by omega⟩
                · simp only [List.mem_cons] at hx
                  rcases hx with h | h | h | h
                  · omega
                  · omega
                  · omega
                  · have := (H4.out.2.1 _ h).2; omega
              have hfl : full.flatten.length ≤ 100000 := by
                have h1 := HF.out.2.2.2.1
                have h2 := HF.out.2.2.2.2.2.2.2.1
                have h3 := congrArg List.length h1
                rw [List.length_append] at h3
                split at h3
                · rename_i h0
                  rw [HF.out.2.1] at h0
                  have h4 := congrArg List.length (HF.out.2.2.1 h0)
                  rw [List.length_append] at h4
                  have h5 := HLen.out
                  omega
                · simp only [List.length_nil] at h3; omega
              have HL0 := Lib.hid (And.intro hL0 (And.intro hSt (And.intro hfl (And.intro hD hDb))))
              have HZ := Lib.hid (And.intro hszw (And.intro hszr (And.intro hsz4 (And.intro hRw' hwr))))
              clear hL0 hSt hfl hDb hwr hszw hszr hsz4 hRl hRw' hs6 hs7 hs8 hw6 hw7 hw8 hbx
              refine wp_range1G 20 0 (gf := 53) (lb := #[.pointer (some ⟨bx + 1 + 1, 0, none⟩), .pointer (some ⟨bx + 1, 0, none⟩)]) (G := (bx + 1 + 1) :: (bx + 1) :: bx :: G) (B := w.heap.size) rfl (fun _ _ => by kernel_rfl) (HF.out.2.2.2.2.2.1 (bx + 1 + 1) (bx + 1) bx) (by have := HL0.out.1.old.size; exact this)
                (fun k args W h => by obtain ⟨_, _, _, _, rfl, _⟩ := h; rfl) (fun t ht => by
                  have h1 := HL0.out.2.2.2.2
                  have h2 := HZ.out
                  rw [HL0.out.2.2.2.1]
                  simp only [List.mem_cons] at ht
                  rcases ht with h | h | h | h
                  · omega
                  · omega
                  · omega
                  · have := (H4.out.2.1 _ h).2; omega)
                (fun k G W => ∃ (A3 : Option Addr) (n3 c3 : Nat), LCI w D R (bx + 3) A1 n1 c1 al A2 n2 c2 W5 (full.take k).flatten G W A3 n3 c3)
                ?hI ?hIl ?hA ⟨none, 0, 0, HL0.out.1⟩ HL0.out.2.1 ?hassign ?hbody ?hdone
              case hI =>
                rintro k G1 G2 W1 W2 ⟨A3, n3, c3, h⟩ ht h2
                exact ⟨A3, n3, c3, h.step ht h2⟩
              case hIl =>
                rintro k G1 W1 W2 ⟨A3, n3, c3, h⟩ _ ht
                rw [hD] at ht
                exact ⟨A3, n3, c3, h.book ht⟩
              case hA =>
                rintro k args W1 W2 ⟨Ap, np, cq, o, rfl, ho, hr⟩ hl ht
                have hne := HF.out.2.2.2.2.1 o (List.mem_of_getElem? ho)
                have hnp : 0 < np := by
                  have h1 := hr.1
                  rcases Nat.eq_zero_or_pos np with h0 | h0
                  · exact absurd (List.eq_nil_of_length_eq_zero (h1.symm.trans h0)) hne
                  · exact h0
                exact ⟨Ap, np, cq, o, rfl, ho, hr.turn ht (fun ad e hm => by simp at hm; exact rd_ne_loop hr hnp hl ad e hm)⟩
              case hassign =>
                rintro l' args k W K ⟨Ap, np, cq, o, rfl, ho, hr⟩ hK
                simp at hK
                gi_wp2
                exact hK
              case hbody =>
                rintro l' k args G1 W hkN hlt ⟨A3, n3, c3, hL⟩ ⟨Ap, np, cq, o, rfl, ho, hr⟩ hd1 hd2 hgs
                rw [hD] at hlt ⊢
                have hne := HF.out.2.2.2.2.1 o (List.mem_of_getElem? ho)
                have hnp : ¬ np = 0 := fun h0 => hne (List.eq_nil_of_length_eq_zero (hr.1.symm.trans h0))
                have hnpb : ((np : Int) == 0) = false := by simpa using hnp
                have cO := hL.o.cell 0
                simp only [List.getElem?_toArray, List.getElem?_cons_zero] at cO
                have hlen : (full.take k).flatten.length + o.length ≤ 140737488355328 := by
                  have h1 := take_flat_le full (k + 1)
                  rw [take_flat full k o ho, List.length_append] at h1
                  have := HL0.out.2.2.1
                  omega
                have HB := Lib.hid (And.intro hL (And.intro hr (And.intro ho (And.intro hgs (And.intro hlen hlt)))))
                clear hL hr ho hgs hlen hne hnp hd1 hd2
                gi_wp2_with (gi_at_builtin; go_must (refine wpListIn_app2r (.tmp 81) (.tmp 82) (D + 2) (.slice A3 n3 c3) _ HB.out.1.own (by have := HB.out.2.2.2.2.2; omega) Ap np cq o HB.out.2.1 HB.out.2.2.2.2.1 rfl rfl rfl rfl ?_); intro A4 n4 c4 w9 hn9 hG9; have hO9 := HB.out.1.o.turn (Turn.of_grown hG9.grown) (fun hm => (by have h1 := (HB.out.1.own.lt (show _ = some (bx + 3) by simpa using hm)).1; have h2 := HB.out.1.lt.2.1; omega)); have c9 := hO9.cell 0; have f9 := hO9.frozen 0; simp only [List.getElem?_toArray, List.getElem?_cons_zero] at c9; have H9 := Lib.hid hG9; clear hG9 hO9)
                obtain ⟨hL9, hK9⟩ := HB.out.1.next H9.out HB.out.2.2.2.2.2 HB.out.2.2.2.1
                rw [← take_flat full k o HB.out.2.2.1] at hL9
                exact ⟨hK9, A4, n4, c4, hL9⟩
              case hdone =>
                rintro G1 W hlt ⟨A3, n3, c3, hL⟩ hK
                rw [hD] at hlt hK ⊢
                rw [List.take_of_length_le (Nat.le_refl _)] at hL
                have hfin : ∀ W6, LCI w D R (bx + 3) A1 n1 c1 al A2 n2 c2 W5 full.flatten G1 W6 A3 n3 c3 → W6.heap[D]? = some (.deferred (some [])) → D < W6.heap.size → ∀ tm : Array Value, tm.getD 10 undef = .pointer (some ⟨R, 0, none⟩) → bodyPostM Fence.wide 3 Try.prog Try.f8 (LawRes w) .ret { tmps := tm, defers := [{ target := .collected D, args := #[] }] } (W6.setCell ⟨R, 0, none⟩ (.bool true)) := fun W6 h6 hK6 hD6 tm htm => by
                  obtain ⟨q1, q2, q3, q4, q5, q6, q7⟩ := h6.lt
                  have hT := (Turn.refl [R] W6).setCell (p := ⟨R, 0, none⟩) (.inl (by simp)) (.bool true)
                  have hT2 : Turn [D] (W6.setCell ⟨R, 0, none⟩ (.bool true)) ((W6.setCell ⟨R, 0, none⟩ (.bool true)).putObj D (.deferred none)) := (Turn.refl [D] _).putObj (.inl (by simp)) _
                  refine ret_cell (D := D) rfl ((hT.block D hD6 (by simp; omega)).trans hK6) (res_cell rfl htm ((h6.r.set_ 0 _).turn hT2 (by simp; omega))) ⟨rfl, ?_⟩
                  have hDW := h6.DW
                  exact below_turn (old_set h6.old q4) hT2 (by intro t ht; simp at ht; omega) (old_set h6.old q4).size
                have HFi := Lib.hid hfin
                clear hfin
                have h1 := HF.out.2.2.2.1
                rw [HF.out.2.1] at h1
                by_cases hv : v5 = 0
                · subst hv
                  rw [if_pos rfl, ← HF.out.2.2.1 (by first | rfl | trivial)] at h1
                  have cO := hL.o.cell 0
                  have cR := hL.r.cell 0
                  have fR := hL.r.frozen 0
                  simp only [List.getElem?_toArray, List.getElem?_cons_zero] at cO cR
                  have s5 := hL.own.rd.str
                  have s6 := hL.a2.str
                  rw [h1] at s5
                  have HB := Lib.hid (And.intro hL (And.intro hK hlt))
                  clear hL hK hlt h1
                  go_wp2_with fail
                  exact HFi.out W HB.out.1 HB.out.2.1 (by have := HB.out.2.2; omega) _ rfl
                · rw [if_neg hv, List.append_nil] at h1
                  have hvb : (v5 != 0) = true := by simpa using hv
                  have HB := Lib.hid (And.intro hL (And.intro hK (And.intro hlt h1)))
                  clear hL hK hlt h1
                  go_wp2_with fail
                  refine (HF.out.2.2.2.2.2.2.1 W A1 n1 c1 al HB.out.1.old HB.out.1.a1 (by omega)).mono ?_
                  rintro e W6 ⟨A6, n6, c6, rfl, hR6, hB6⟩
                  have hL6 := HB.out.1.step (G2 := G1) (Turn.of_below G1 hB6) (fun x hx => .inl hx)
                  have hK6 : W6.heap[D]? = some (.deferred (some [])) := (hB6.block D (by have := HB.out.2.2.1; omega)).trans HB.out.2.1
                  have hD6 : D < W6.heap.size := by have := hB6.size; have := HB.out.2.2.1; omega
                  have cO := hL6.o.cell 0
                  have cR := hL6.r.cell 0
                  have fR := hL6.r.frozen 0
                  simp only [List.getElem?_toArray, List.getElem?_cons_zero] at cO cR
                  have s5 := hL6.own.rd.str
                  have s6 := hR6.str
                  rw [HB.out.2.2.2] at s5
                  have H6 := Lib.hid (And.intro hL6 (And.intro hK6 hD6))
                  clear hL6 hK6 hD6 hR6 hB6
                  go_wp2_with fail
                  exact HFi.out W6 H6.out.1 H6.out.2.1 H6.out.2.2 _ rfl
        · have hnew := new_bad mode enc A P ma ca mp cp k p wr hks hps hmp hmay
          obtain ⟨v4, hv4⟩ : ∃ v, mayF mode k p = v := ⟨_, rfl⟩
          rw [hv4] at hnew hmay
          have hvb : (v4 != 0) = true := by simpa using hmay
          have HN := Lib.hid hnew
          clear hnew hv4 hmay hks hps
          go_wp2_with fail
          refine HN.out.mono ?_
          rintro e w4 ⟨rfl, hB4⟩
          have H4 := Lib.hid hB4
          have c0 := (H3.out.2.2.1.below hB4).cell 0
          have f0 := (H3.out.2.2.1.below hB4).frozen 0
          simp only [List.getElem?_toArray, List.getElem?_cons_zero] at c0
          clear hB4
          go_wp2_with fail
          exact ret_bare rfl (res_cell rfl rfl ((H3.out.2.2.1.below H4.out).set_ 0 _)) ⟨rfl, old_set (Old.trans H3.out.2.1 H4.out) (by have := HRw.out; omega)⟩
end Go.Proofs.Ytiocmebcbhbcmaa
