/- The program's datagrams, and checks of segments (chapters 6 and 8). The program's pseudo headers: sum, Check, Verify, Fill (chapter 8). The program's tuples: Key, Reverse (chapter 9). What is known of a packet: ends, Classify (datagrams). -/
import Derived.Test.YtngdebpaheejlaaGreatDoorZd
import Derived.Test.YtngdebpaheejlaaGreatDoorZa
namespace Go.Proofs.YtngdebpaheejlaaGreatDoor
open Go.RowKit Go.Shelf
set_option linter.unusedSimpArgs false
set_option linter.unusedVariables false
attribute [local go_sem] bs_app bs_size bs_bt bs_extract numB_len zz_bs z_bs
theorem psize6_bad (l : List Nat) (hl : Byt l) (h8 : 8 ≤ l.length) (hlen : l.length ≤ 4000) (hm : valAt l 4 2 < 8 ∨ l.length < valAt l 4 2) (w : World) :
    Calls Tryz.prog 169 #[.string (bs l)] w fun e w' => e = .returned (.tuple #[.int .i64 0, .bool false]) ∧ Below w.heap.size w w' := by
  have HG := Lib.hid (pget_c l hl 4 2 (by omega) (by omega) hlen (by omega))
  obtain ⟨m, hmm⟩ : ∃ m, valAt l 4 2 = m := ⟨_, rfl⟩
  rw [hmm] at hm HG
  clear hmm
  go_enter Tryz.func169, Tryz.ntmps169
  go_wp2_with fail
  refine (HG.out _).mono ?_
  rintro e w' ⟨rfl, hb⟩
  by_cases q : m < 8
  · have qi : (m : Int) < 8 := by omega
    go_wp2_with fail
    go_ret2
    exact ⟨rfl, hb⟩
  · have qi : ¬ (m : Int) < 8 := by omega
    have qj : (l.length : Int) < (m : Int) := by omega
    go_wp2_with fail
    go_ret2
    exact ⟨rfl, hb⟩
theorem psize6_ok (l : List Nat) (hl : Byt l) (h8 : 8 ≤ l.length) (hlen : l.length ≤ 4000) (hm : valAt l 4 2 = l.length) (w : World) :
    Calls Tryz.prog 169 #[.string (bs l)] w fun e w' => e = .returned (.tuple #[.int .i64 l.length, .bool true]) ∧ Below w.heap.size w w' := by
  have HG := Lib.hid (pget_c l hl 4 2 (by omega) (by omega) hlen (by omega))
  rw [hm] at HG
  clear hm
  go_enter Tryz.func169, Tryz.ntmps169
  go_wp2_with fail
  refine (HG.out _).mono ?_
  rintro e w' ⟨rfl, hb⟩
  go_wp2_with fail
  go_ret2
  exact ⟨rfl, hb⟩
set_option maxRecDepth 100000 in
theorem uparse_c (l : List Nat) (hl : Byt l) (h8 : 8 ≤ l.length) (hlen : l.length ≤ 4000) (hm : valAt l 4 2 = l.length) (w : World) :
    Calls Tryz.prog 124 #[.string (bs l)] w fun e w' => e = .returned (.tuple #[.int .i64 (valAt l 0 2 : Nat), .int .i64 (valAt l 2 2 : Nat), .string (bs (l.drop 8)), .int .i64 0]) ∧ Below w.heap.size w w' := by
  have HS := Lib.hid (psize6_ok l hl h8 hlen hm)
  have H0 := Lib.hid (pget_c l hl 0 2 (by omega) (by omega) hlen (by omega))
  have H2 := Lib.hid (pget_c l hl 2 2 (by omega) (by omega) hlen (by omega))
  clear hm
  go_enter Tryz.func124, Tryz.ntmps124
  go_wp2_with fail
  refine (HS.out _).mono ?_
  rintro e w1 ⟨rfl, hb1⟩
  go_wp2_with fail
  refine (H0.out _).mono ?_
  rintro e w2 ⟨rfl, hb2⟩
  go_wp2_with fail
  refine (H2.out _).mono ?_
  rintro e w3 ⟨rfl, hb3⟩
  go_wp2_with fail
  go_quiet (fail)
  go_wp2_with fail
  refine bodyPost_ret (results4 rfl _ _ _) rfl ?_
  refine ⟨by simp, Below.drN ((hb1.trans (hb2.mono hb1.size)).trans (hb3.mono ?_)) _⟩
  have := hb1.size
  have := hb2.size
  omega
theorem keyed3 : Maps.Keyed Tryz.prog 3 := Maps.int_keyed Tryz.underlying3
theorem zero3 (w : World) : (zeroValue 3).run Tryz.prog w = .ok (.int .i64 0) w := by kernel_rfl
noncomputable def ins3 (M : Lit → Option Value) (k v : Int) : Lit → Option Value := putM M (.int .i64 k) (some (.int .i64 v))
structure MW (w0 w : World) (b n : Nat) (M : Lit → Option Value) : Prop where
  map : GMap Tryz.prog w 3 b n M
  bel : Below w0.heap.size w0 w
theorem MW.step {w0 w w' : World} {b n n' : Nat} {M : Lit → Option Value} {k v : Int} (h : MW w0 w b n M) (hg : GMap Tryz.prog w' 3 b n' (putM M (.int .i64 k) (some (.int .i64 v)))) (ht : w.mapTurned w' b) (hb : w0.heap.size ≤ b) (hz : M (.int .i64 k) = none) (hn' : (if (M (.int .i64 k)).isSome then n else n + 1) = n') : MW w0 w' b (n + 1) (ins3 M k v) := by
  rw [hz] at hn'
  simp at hn'
  subst hn'
  exact ⟨hg, h.bel.trans (turned_below ht hb)⟩
theorem ins3_at (M : Lit → Option Value) (k v : Int) : ins3 M k v (.int .i64 k) = some (.int .i64 v) := putM_same _ _ _
theorem ins3_other (M : Lit → Option Value) (k v : Int) {j : Int} (h : j ≠ k) : ins3 M k v (.int .i64 j) = M (.int .i64 j) := putM_other _ _ (fun e => h (by cases e; rfl))
set_option maxRecDepth 100000 in
set_option maxHeartbeats 800000 in
theorem pplace_c (p a : Int) (hp : (p = 6 ∧ a = 16) ∨ (p = 17 ∧ a = 6)) (w : World) : Calls Tryz.prog 125 #[.int .i64 p] w fun e w' => e = .returned (.tuple #[.int .i64 a, .bool true]) ∧ Below w.heap.size w w' := by
  have hmm := @run_makeMap Tryz.prog
  have hpw : (Lit.int .i64 p).wf = true := by rcases hp with ⟨rfl, _⟩ | ⟨rfl, _⟩ <;> decide
  have HP := Lib.hid hp
  clear hp
  have S : MW w (w.alloc (.map #[] 0)) w.heap.size 0 (fun _ => none) := ⟨GMap.made Tryz.prog w 3, (Below.refl _ _).alloc (Nat.le_refl _) _⟩
  have e1 : (ins3 (ins3 (fun _ => none) 6 16) 17 6 (.int .i64 p)).getD (.int .i64 0) = .int .i64 a := by
    rcases HP.out with ⟨rfl, rfl⟩ | ⟨rfl, rfl⟩
    · rw [ins3_other _ _ _ (by decide), ins3_at]; rfl
    · rw [ins3_at]; rfl
  have e2 : (ins3 (ins3 (fun _ => none) 6 16) 17 6 (.int .i64 p)).isSome = true := by
    rcases HP.out with ⟨rfl, rfl⟩ | ⟨rfl, rfl⟩
    · rw [ins3_other _ _ _ (by decide), ins3_at]; rfl
    · rw [ins3_at]; rfl
  have E1 := Lib.hid e1
  have E2 := Lib.hid e2
  clear e1 e2
  go_enter Tryz.func125, Tryz.ntmps125
  go_wp2_with (first
    | ((with_reducible refine is_insert ?_); go_loud (refine wpList_gm_insert _ rfl _ _ _ _ rfl keyed3 Tryz.underlying132 rfl S.map (by decide) _ _ (.int .i64 _) trivial rfl rfl (Maps.keyOf_int_mk Tryz.underlying3 (by decide)) ?_; rintro w' hG hT; have S' := S.step hG hT (Nat.le_refl _) (by simp [ins3, putM]) rfl; clear S hG hT; have S := S'; clear S'))
    | (at_lookup; go_loud (refine wpList_gm_look_ok _ rfl _ _ _ rfl keyed3 Tryz.underlying132 zero3 rfl S.map _ (.int .i64 _) rfl (Maps.keyOf_int_mk Tryz.underlying3 hpw) _ E1.out _ E2.out ?_)))
  have hB := S.bel
  go_ret2
  exact ⟨rfl, hB⟩
theorem pcov_6 (l : List Nat) (hl : Byt l) (h8 : 8 ≤ l.length) (hlen : l.length ≤ 4000) (w : World) :
    Calls Tryz.prog 128 #[.int .i64 6, .string (bs l)] w fun e w' => e = .returned (.string (bs l)) ∧ Below w.heap.size w w' := by
  have HG := Lib.hid (pget_c l hl 4 2 (by omega) (by omega) hlen (by omega))
  by_cases q : valAt l 4 2 < 8 ∨ l.length < valAt l 4 2
  · go_enter Tryz.func128, Tryz.ntmps128
    go_wp2_with fail
    refine (psize6_bad l hl h8 hlen q _).mono ?_
    rintro e w' ⟨rfl, hb⟩
    go_wp2_with fail
    go_ret
    exact ⟨rfl, hb⟩
  · have q2 : 8 ≤ valAt l 4 2 ∧ valAt l 4 2 ≤ l.length := by omega
    obtain ⟨m, hmm⟩ : ∃ m, valAt l 4 2 = m := ⟨_, rfl⟩
    have HS : Hid (∀ W : World, Calls Tryz.prog 169 #[.string (bs l)] W fun e w' => e = .returned (.tuple #[.int .i64 m, .bool true]) ∧ Below W.heap.size W w') := fun W => by
      rw [hmm] at HG q2
      clear q hmm
      go_enter Tryz.func169, Tryz.ntmps169
      go_wp2_with fail
      refine (HG.out _).mono ?_
      rintro e w' ⟨rfl, hb⟩
      go_wp2_with fail
      go_ret2
      exact ⟨rfl, hb⟩
    clear q q2 hmm HG
    go_enter Tryz.func128, Tryz.ntmps128
    go_wp2_with fail
    refine (HS.out _).mono ?_
    rintro e w' ⟨rfl, hb⟩
    go_wp2_with fail
    go_ret
    exact ⟨rfl, hb⟩
theorem pcov_17 (l : List Nat) (hl : Byt l) (h8 : 8 ≤ l.length) (hlen : l.length ≤ 4000) (hm : valAt l 4 2 = l.length) (w : World) :
    Calls Tryz.prog 128 #[.int .i64 17, .string (bs l)] w fun e w' => e = .returned (.string (bs l)) ∧ Below w.heap.size w w' := by
  have H := Lib.hid (psize6_ok l hl h8 hlen hm)
  obtain ⟨n, hn⟩ : ∃ n, l.length = n := ⟨_, rfl⟩
  rw [hn] at H
  go_enter Tryz.func128, Tryz.ntmps128
  go_wp2_with fail
  refine (H.out _).mono ?_
  rintro e w' ⟨rfl, hb⟩
  go_wp2_with fail
  go_ret
  refine ⟨?_, hb⟩
  first | rfl | (rw [← hn]; simp)
end Go.Proofs.YtngdebpaheejlaaGreatDoor
namespace Go.Proofs.YtngdebpaheejlaaGreatDoor
open Go.RowKit Go.Shelf
set_option linter.unusedSimpArgs false
set_option linter.unusedVariables false
attribute [local go_sem] bs_app bs_size bs_bt bs_extract numB_len zz_bs z_bs
/-- What a segment and whose it is sum up to. -/
def ps8 (proto src dst : Nat) (l : List Nat) : Nat := fold16 (fold16 (src / 65536 + src % 65536 + dst / 65536 + dst % 65536 + proto + l.length % 65536) + fold16 (sumW l))
theorem ps8_le (proto src dst : Nat) (l : List Nat) : ps8 proto src dst l ≤ 65535 := fold16_le _
theorem sumW_le {l : List Nat} (h : Byt l) (hlen : l.length ≤ 4000) : sumW l ≤ 2000 * 65535 := Nat.le_trans (sumTo_le h _) (Nat.mul_le_mul_right _ (by unfold nw; omega))
set_option maxRecDepth 100000 in
set_option maxHeartbeats 1600000 in
theorem sum8_c (proto src dst : Nat) (l : List Nat) (hl : Byt l) (hlen : l.length ≤ 1500) (h1 : src < 4294967296) (h2 : dst < 4294967296) (h3 : proto ≤ 255) (w : World) :
    Calls Tryz.prog 127 #[.int .i64 proto, .int .u32 src, .int .u32 dst, .string (bs l)] w fun e w' => e = .returned (.int .u16 (ps8 proto src dst l : Nat)) ∧ Below w.heap.size w w' := by
  have a1 : bits BinOp.and IntKind.u32 (src : Int) 65535 = (src : Int) % 65536 := by
    rw [show (65535 : Int) = ((65535 : Nat) : Int) from rfl, u32_and_nat _ _ (by omega) (by omega), nat_mask16]; simp
  have a2 : bits BinOp.and IntKind.u32 (dst : Int) 65535 = (dst : Int) % 65536 := by
    rw [show (65535 : Int) = ((65535 : Nat) : Int) from rfl, u32_and_nat _ _ (by omega) (by omega), nat_mask16]; simp
  have a3 : bits BinOp.and IntKind.i64 (l.length : Int) 65535 = (l.length : Int) % 65536 := by
    rw [show (65535 : Int) = ((65535 : Nat) : Int) from rfl, i64_and_nat _ _ (by omega) (by omega), nat_mask16]; simp
  obtain ⟨q, hq⟩ : ∃ q, src / 65536 + src % 65536 + dst / 65536 + dst % 65536 + proto + l.length % 65536 = q := ⟨_, rfl⟩
  have hqb : q < 1000000 := by omega
  have HFQ := Lib.hid (pfold_c q (by omega))
  have hqi : (src : Int) / 65536 + (src : Int) % 65536 + (dst : Int) / 65536 + (dst : Int) % 65536 + (proto : Int) + (l.length : Int) % 65536 = (q : Int) := by omega
  rw [← hqi] at HFQ
  have HS := Lib.hid (psum_c l hl (by omega))
  obtain ⟨f1, hf1⟩ : ∃ f1, fold16 q = f1 := ⟨_, rfl⟩
  obtain ⟨f2, hf2⟩ : ∃ f2, fold16 (sumW l) = f2 := ⟨_, rfl⟩
  have b1 : f1 ≤ 65535 := by rw [← hf1]; exact fold16_le _
  have b2 : f2 ≤ 65535 := by rw [← hf2]; exact fold16_le _
  have HR : Hid (ps8 proto src dst l = fold16 (f1 + f2)) := by show _ = _; unfold ps8; rw [hq, hf1, hf2]
  rw [hf1] at HFQ
  rw [hf2] at HS
  have HJ := Lib.hid (fun g W hg => pjoin_c f1 f2 g b1 b2 W hg)
  clear hq hf1 hf2 hqi
  go_enter Tryz.func127, Tryz.ntmps127
  go_wp2_with fail
  refine (HFQ.out _).mono ?_
  rintro e w' ⟨rfl, rfl⟩
  go_wp2_with fail
  refine (HS.out _).mono ?_
  rintro e w1 ⟨rfl, hb1⟩
  go_wp2_with fail
  refine (HJ.out _ _ (Has.new w1 _ _)).mono ?_
  rintro e w' ⟨rfl, rfl⟩
  go_wp2_with fail
  go_ret
  rw [HR.out]
  exact ⟨rfl, hb1.alloc hb1.size _⟩
structure Seg (proto at_ : Nat) (l : List Nat) : Prop where
  byt : Byt l
  lo : 8 ≤ l.length
  fit : at_ + 2 ≤ l.length
  hi : l.length ≤ 1500
  kind : (proto = 6 ∧ at_ = 16) ∨ (proto = 17 ∧ at_ = 6 ∧ valAt l 4 2 = l.length)
theorem Seg.cov {proto at_ : Nat} {l : List Nat} (h : Seg proto at_ l) (w : World) : Calls Tryz.prog 128 #[.int .i64 proto, .string (bs l)] w fun e w' => e = .returned (.string (bs l)) ∧ Below w.heap.size w w' := by
  rcases h.kind with ⟨rfl, _⟩ | ⟨rfl, _, hv⟩
  · exact pcov_6 l h.byt h.lo (by have := h.hi; omega) w
  · exact pcov_17 l h.byt h.lo (by have := h.hi; omega) hv w
theorem Seg.pl {proto at_ : Nat} {l : List Nat} (h : Seg proto at_ l) (w : World) : Calls Tryz.prog 125 #[.int .i64 proto] w fun e w' => e = .returned (.tuple #[.int .i64 at_, .bool true]) ∧ Below w.heap.size w w' := by
  refine pplace_c proto at_ ?_ w
  rcases h.kind with ⟨rfl, rfl⟩ | ⟨rfl, rfl, _⟩
  · exact .inl ⟨rfl, rfl⟩
  · exact .inr ⟨rfl, rfl⟩
theorem Seg.p255 {proto at_ : Nat} {l : List Nat} (h : Seg proto at_ l) : proto ≤ 255 := by
  rcases h.kind with ⟨rfl, _⟩ | ⟨rfl, _⟩ <;> omega
set_option maxRecDepth 100000 in
set_option maxHeartbeats 1600000 in
theorem pchk8_c (proto at_ src dst : Nat) (l : List Nat) (h : Seg proto at_ l) (h1 : src < 4294967296) (h2 : dst < 4294967296) (w : World) :
    Calls Tryz.prog 126 #[.int .i64 proto, .int .u32 src, .int .u32 dst, .string (bs l)] w fun e w' => ∃ n : Nat, n ≤ 65535 ∧ e = .returned (.tuple #[.int .u16 n, .bool true]) ∧ Below w.heap.size w w' := by
  have HC := Lib.hid h.cov
  have HP := Lib.hid h.pl
  have HS := Lib.hid (pset_2 l h.byt at_ 0 (by omega) (by have := h.hi; omega) h.fit)
  have hz := setZ_len 2 l at_ 0 h.fit
  have HU := Lib.hid (sum8_c proto src dst (setZ 2 l at_ 0) (setZ_byt 2 h.byt _ _) (by have := h.hi; omega) h1 h2 h.p255)
  obtain ⟨s, hs⟩ : ∃ s, ps8 proto src dst (setZ 2 l at_ 0) = s := ⟨_, rfl⟩
  have hsl : s ≤ 65535 := by rw [← hs]; exact ps8_le _ _ _ _
  rw [hs] at HU
  have e1 := not16 s hsl
  have hp := h.p255
  clear hs h hz
  go_enter Tryz.func126, Tryz.ntmps126
  go_wp2_with fail
  refine (HP.out _).mono ?_
  rintro e w1 ⟨rfl, hb1⟩
  go_wp2_with fail
  refine (HC.out _).mono ?_
  rintro e w2 ⟨rfl, hb2⟩
  go_wp2_with fail
  refine (HS.out _).mono ?_
  rintro e w3 ⟨rfl, hb3⟩
  go_wp2_with fail
  refine (HU.out _).mono ?_
  rintro e w4 ⟨rfl, hb4⟩
  have q1 := hb1.size
  have q2 := hb2.size
  have q3 := hb3.size
  have FB := Lib.hid (((hb1.trans (hb2.mono q1)).trans (hb3.mono (by omega))).trans (hb4.mono (by omega)))
  have e2 : bits BinOp.xor IntKind.u16 (if IntKind.u16.signed = true then -1 else IntKind.u16.max) (s : Int) = ((65535 - s : Nat) : Int) := e1
  have e3 : bits BinOp.xor IntKind.u16 IntKind.u16.max (s : Int) = ((65535 - s : Nat) : Int) := e1
  obtain ⟨c, hc⟩ : ∃ c, 65535 - s = c := ⟨_, rfl⟩
  rw [hc] at e1 e2 e3
  have hcl : c ≤ 65535 := by omega
  by_cases hp17 : proto = 17
  · subst hp17
    by_cases hc0 : c = 0
    · subst hc0
      go_wp2_with fail
      go_ret2
      exact ⟨65535, by omega, rfl, FB.out⟩
    · have hci : ¬ (c : Int) = 0 := by omega
      go_wp2_with fail
      go_ret2
      exact ⟨c, hcl, rfl, FB.out⟩
  · have hpi : ¬ (proto : Int) = 17 := by omega
    go_wp2_with fail
    go_ret2
    exact ⟨c, hcl, rfl, FB.out⟩
set_option maxRecDepth 100000 in
set_option maxHeartbeats 1600000 in
theorem verify8_c (proto at_ src dst : Nat) (l : List Nat) (h : Seg proto at_ l) (h1 : src < 4294967296) (h2 : dst < 4294967296) (hv : ps8 proto src dst l = 65535) (w : World) :
    Calls Tryz.prog 78 #[.int .i64 proto, .int .u32 src, .int .u32 dst, .string (bs l)] w fun e w' => e = .returned (.int .i64 0) ∧ Below w.heap.size w w' := by
  have HC := Lib.hid h.cov
  have HP := Lib.hid h.pl
  have HK := Lib.hid (pchk8_c proto at_ src dst l h h1 h2)
  have HG := Lib.hid (pget_c l h.byt at_ 2 (by omega) (by omega) (by have := h.hi; omega) h.fit)
  have HU := Lib.hid (sum8_c proto src dst l h.byt h.hi h1 h2 h.p255)
  rw [hv] at HU
  obtain ⟨m, hm⟩ : ∃ m, valAt l at_ 2 = m := ⟨_, rfl⟩
  rw [hm] at HG
  have hp := h.p255
  clear hv hm h
  go_enter Tryz.func78, Tryz.ntmps78
  go_wp2_with fail
  refine (HP.out _).mono ?_
  rintro e w1 ⟨rfl, hb1⟩
  go_wp2_with fail
  refine (HK.out _).mono ?_
  rintro e w2 ⟨n, hn, rfl, hb2⟩
  go_wp2_with fail
  refine (HG.out _).mono ?_
  rintro e w3 ⟨rfl, hb3⟩
  have q1 := hb1.size
  have q2 := hb2.size
  have q3 := hb3.size
  have FB := Lib.hid ((hb1.trans (hb2.mono q1)).trans (hb3.mono (by omega)))
  have REST : ∀ W4 : World, Below w3.heap.size w3 W4 → Below w.heap.size w W4 := fun W4 hb4 => FB.out.trans (hb4.mono (by omega))
  have HREST := Lib.hid REST
  clear REST
  by_cases hp17 : proto = 17
  · subst hp17
    by_cases hm0 : m = 0
    · subst hm0
      go_wp2_with fail
      go_ret
      exact ⟨rfl, FB.out⟩
    · have hmi : ¬ (m : Int) = 0 := by omega
      go_wp2_with fail
      refine (HC.out _).mono ?_
      rintro e w4 ⟨rfl, hb4⟩
      go_wp2_with fail
      refine (HU.out _).mono ?_
      rintro e w5 ⟨rfl, hb5⟩
      go_wp2_with fail
      go_ret
      exact ⟨rfl, HREST.out _ (hb4.trans (hb5.mono hb4.size))⟩
  · have hpi : ¬ (proto : Int) = 17 := by omega
    go_wp2_with fail
    refine (HC.out _).mono ?_
    rintro e w4 ⟨rfl, hb4⟩
    go_wp2_with fail
    refine (HU.out _).mono ?_
    rintro e w5 ⟨rfl, hb5⟩
    go_wp2_with fail
    go_ret
    exact ⟨rfl, HREST.out _ (hb4.trans (hb5.mono hb4.size))⟩
theorem pfill8_c (proto at_ src dst : Nat) (l : List Nat) (h : Seg proto at_ l) (h1 : src < 4294967296) (h2 : dst < 4294967296) (w : World) :
    Calls Tryz.prog 154 #[.int .i64 proto, .int .u32 src, .int .u32 dst, .string (bs l)] w fun e w' => ∃ l', Byt l' ∧ l'.length = l.length ∧ e = .returned (.tuple #[.string (bs l'), .bool true]) ∧ Below w.heap.size w w' := by
  have HP := Lib.hid h.pl
  have HK := Lib.hid (pchk8_c proto at_ src dst l h h1 h2)
  have HS := Lib.hid (fun n hn => pset_2 l h.byt at_ n hn (by have := h.hi; omega) h.fit)
  have HL := Lib.hid (fun n => And.intro (setZ_byt 2 h.byt at_ n) (setZ_len 2 l at_ n h.fit))
  clear h
  go_enter Tryz.func154, Tryz.ntmps154
  go_wp2_with fail
  refine (HK.out _).mono ?_
  rintro e w1 ⟨n, hn, rfl, hb1⟩
  go_wp2_with fail
  refine (HP.out _).mono ?_
  rintro e w2 ⟨rfl, hb2⟩
  go_wp2_with fail
  refine (HS.out n (by omega) _).mono ?_
  rintro e w3 ⟨rfl, hb3⟩
  go_wp2_with fail
  go_ret2
  exact ⟨_, (HL.out n).1, (HL.out n).2, rfl, (hb1.trans (hb2.mono hb1.size)).trans (hb3.mono (by have := hb1.size; have := hb2.size; omega))⟩
end Go.Proofs.YtngdebpaheejlaaGreatDoor
namespace Go.Proofs.YtngdebpaheejlaaGreatDoor
open Go.RowKit Go.Shelf
set_option linter.unusedSimpArgs false
set_option linter.unusedVariables false
attribute [local go_sem] bs_app bs_size bs_bt bs_extract numB_len zz_bs z_bs e_bs
def tupV (p s d sp dp : Int) : Value := .agg #[.int .i64 p, .int .u32 s, .int .u32 d, .int .i64 sp, .int .i64 dp]
def keyL (p s d sp dp : Nat) : Nat → List Nat
  | 0 => []
  | 1 => numB 1 p
  | 2 => numB 1 p ++ numB 4 s
  | 3 => numB 1 p ++ (numB 4 s ++ numB 4 d)
  | 4 => numB 1 p ++ (numB 4 s ++ (numB 4 d ++ numB 2 sp))
  | _ => numB 1 p ++ (numB 4 s ++ (numB 4 d ++ (numB 2 sp ++ numB 2 dp)))
theorem keyL_byt (p s d sp dp : Nat) : Byt (keyL p s d sp dp 5) := byt_app (numB_byt _ _) (byt_app (numB_byt _ _) (byt_app (numB_byt _ _) (byt_app (numB_byt _ _) (numB_byt _ _))))
theorem keyL_len (p s d sp dp : Nat) : (keyL p s d sp dp 5).length = 13 := by simp [keyL, numB_len]
set_option maxRecDepth 100000 in
set_option maxHeartbeats 3200000 in
theorem key_c (p s d sp dp : Nat) (h1 : p < 256) (h2 : s < 4294967296) (h3 : d < 4294967296) (h4 : sp < 65536) (h5 : dp < 65536) (w : World) :
    Calls Tryz.prog 134 #[tupV p s d sp dp] w fun e w' => e = .returned (.tuple #[.string (bs (keyL p s d sp dp 5)), .bool true]) ∧ Below w.heap.size w w' := by
  have P1 := Lib.hid pput_1
  have P2 := Lib.hid pput_2
  have P4 := Lib.hid pput_4
  unfold tupV
  go_enter Tryz.func134, Tryz.ntmps134
  go_wp2_with fail
  have HA : Has ((w.alloc (.cells #[.int .i64 p, .int .u32 s, .int .u32 d, .int .i64 sp, .int .i64 dp] 97)).alloc (.cells #[.int .i64 1, .int .i64 p, .int .i64 4, .int .i64 s, .int .i64 4, .int .i64 d, .int .i64 2, .int .i64 sp, .int .i64 2, .int .i64 dp] 328)) (w.heap.size + 1) 328 #[.int .i64 1, .int .i64 p, .int .i64 4, .int .i64 s, .int .i64 4, .int .i64 d, .int .i64 2, .int .i64 sp, .int .i64 2, .int .i64 dp] := has_at (by simp)
  have B0 : Below w.heap.size w ((w.alloc (.cells #[.int .i64 p, .int .u32 s, .int .u32 d, .int .i64 sp, .int .i64 dp] 97)).alloc (.cells #[.int .i64 1, .int .i64 p, .int .i64 4, .int .i64 s, .int .i64 4, .int .i64 d, .int .i64 2, .int .i64 sp, .int .i64 2, .int .i64 dp] 328)) := ((Below.refl _ _).alloc (Nat.le_refl _) _).alloc (by simp) _
  go_loopw [4, 28] (fun v i wr => ∃ j : Nat, j ≤ 5 ∧ i = .int .i64 j ∧ v = .string (bs (keyL p s d sp dp j)) ∧ Has wr (w.heap.size + 1) 328 #[.int .i64 1, .int .i64 p, .int .i64 4, .int .i64 s, .int .i64 4, .int .i64 d, .int .i64 2, .int .i64 sp, .int .i64 2, .int .i64 dp] ∧ Below w.heap.size w wr) (fun _ i _ => 5 - (intOf i).toNat)
  case atStart => exact ⟨0, by omega, rfl, rfl, HA, B0⟩
  case round =>
    obtain ⟨j, hj, rfl, rfl, HX, hb⟩ := hrel
    clear HA B0
    rcases (show j = 0 ∨ j = 1 ∨ j = 2 ∨ j = 3 ∨ j = 4 ∨ j = 5 by omega) with rfl | rfl | rfl | rfl | rfl | rfl
    · have c0 := HX.cell 0
      have c1 := HX.cell 1
      simp at c0 c1
      simp only [keyL]
      go_wp2_with fail
      refine (P1.out p (by omega) _).mono ?_
      rintro e w1 ⟨rfl, hb1⟩
      have HX1 := (HX.alloc _).below hb1
      have hbz := hb.size
      have hb2 : Hid (Below w.heap.size w w1) := (hb.alloc hbz _).trans (hb1.mono (by simp; omega))
      clear c0 c1 HX hb hb1
      go_wp2_with fail
      go_roundw
      case rel => exact ⟨1, by decide, rfl, by simp [keyL], HX1, hb2.out⟩
      case measure => simp [intOf]
    · have c0 := HX.cell 2
      have c1 := HX.cell 3
      simp at c0 c1
      simp only [keyL]
      go_wp2_with fail
      refine (P4.out s (by omega) _).mono ?_
      rintro e w1 ⟨rfl, hb1⟩
      have HX1 := (HX.alloc _).below hb1
      have hbz := hb.size
      have hb2 : Hid (Below w.heap.size w w1) := (hb.alloc hbz _).trans (hb1.mono (by simp; omega))
      clear c0 c1 HX hb hb1
      go_wp2_with fail
      go_roundw
      case rel => exact ⟨2, by decide, rfl, by simp [keyL], HX1, hb2.out⟩
      case measure => simp [intOf]
    · have c0 := HX.cell 4
      have c1 := HX.cell 5
      simp at c0 c1
      simp only [keyL]
      go_wp2_with fail
      refine (P4.out d (by omega) _).mono ?_
      rintro e w1 ⟨rfl, hb1⟩
      have HX1 := (HX.alloc _).below hb1
      have hbz := hb.size
      have hb2 : Hid (Below w.heap.size w w1) := (hb.alloc hbz _).trans (hb1.mono (by simp; omega))
      clear c0 c1 HX hb hb1
      go_wp2_with fail
      go_roundw
      case rel => exact ⟨3, by decide, rfl, by simp [keyL], HX1, hb2.out⟩
      case measure => simp [intOf]
    · have c0 := HX.cell 6
      have c1 := HX.cell 7
      simp at c0 c1
      simp only [keyL]
      go_wp2_with fail
      refine (P2.out sp (by omega) _).mono ?_
      rintro e w1 ⟨rfl, hb1⟩
      have HX1 := (HX.alloc _).below hb1
      have hbz := hb.size
      have hb2 : Hid (Below w.heap.size w w1) := (hb.alloc hbz _).trans (hb1.mono (by simp; omega))
      clear c0 c1 HX hb hb1
      go_wp2_with fail
      go_roundw
      case rel => exact ⟨4, by decide, rfl, by simp [keyL], HX1, hb2.out⟩
      case measure => simp [intOf]
    · have c0 := HX.cell 8
      have c1 := HX.cell 9
      simp at c0 c1
      simp only [keyL]
      go_wp2_with fail
      refine (P2.out dp (by omega) _).mono ?_
      rintro e w1 ⟨rfl, hb1⟩
      have HX1 := (HX.alloc _).below hb1
      have hbz := hb.size
      have hb2 : Hid (Below w.heap.size w w1) := (hb.alloc hbz _).trans (hb1.mono (by simp; omega))
      clear c0 c1 HX hb hb1
      go_wp2_with fail
      go_roundw
      case rel => exact ⟨5, by decide, rfl, by simp [keyL], HX1, hb2.out⟩
      case measure => simp [intOf]
    · go_wp2_with fail
      go_ret2
      exact ⟨rfl, hb⟩
set_option maxRecDepth 100000 in
theorem reverse_c (p s d sp dp : Int) (w : World) : Calls Tryz.prog 81 #[tupV p s d sp dp] w fun e w' => e = .returned (tupV p d s dp sp) ∧ Below w.heap.size w w' := by
  unfold tupV
  have hzz : ∀ W : World, (zeroValue 97).run Tryz.prog W = .ok (.agg #[.int .i64 0, .int .u32 0, .int .u32 0, .int .i64 0, .int .i64 0]) W := fun W => by kernel_rfl
  go_enter Tryz.func81, Tryz.ntmps81
  go_wp2_with fail
  have HR : Has ((w.alloc (.cells #[.int .i64 p, .int .u32 d, .int .u32 s, .int .i64 dp, .int .i64 sp] 97)).alloc (.cells #[.int .i64 p, .int .u32 d, .int .u32 s, .int .i64 dp, .int .i64 sp] 97)) (w.heap.size + 1) 97 #[.int .i64 p, .int .u32 d, .int .u32 s, .int .i64 dp, .int .i64 sp] := has_at (by simp)
  have BZ : Below w.heap.size w ((w.alloc (.cells #[.int .i64 p, .int .u32 d, .int .u32 s, .int .i64 dp, .int .i64 sp] 97)).alloc (.cells #[.int .i64 p, .int .u32 d, .int .u32 s, .int .i64 dp, .int .i64 sp] 97)) := ((Below.refl _ _).alloc (Nat.le_refl _) _).alloc (by simp) _
  have c0 := HR.cell 0
  have c1 := HR.cell 1
  have c2 := HR.cell 2
  have c3 := HR.cell 3
  have c4 := HR.cell 4
  simp at c0 c1 c2 c3 c4
  refine bodyPost_ret (v := .agg #[.int .i64 p, .int .u32 d, .int .u32 s, .int .i64 dp, .int .i64 sp]) ?_ rfl ⟨rfl, BZ⟩
  simp [results, Tryz.f81, go_sem, c0, c1, c2, c3, c4]
end Go.Proofs.YtngdebpaheejlaaGreatDoor
namespace Go.Proofs.YtngdebpaheejlaaGreatDoor
open Go.RowKit Go.Shelf
set_option linter.unusedSimpArgs false
set_option linter.unusedVariables false
attribute [local go_sem] bs_app bs_size bs_bt bs_extract numB_len zz_bs z_bs e_bs
/-- A packet's cells. -/
def pkt (t p s d sp dp fl ttl : Int) : Array Value := #[.int .i64 1, .int .i64 20, .int .i64 t, .int .i64 p, .int .u32 s, .int .u32 d, .int .i64 sp, .int .i64 dp, .int .i64 fl, .int .i64 ttl, .int .u32 s, .int .u32 d, .int .i64 0, .int .i64 0]
set_option maxRecDepth 100000 in
set_option maxHeartbeats 1600000 in
theorem ends_u (pb : Nat) (t s d ttl : Int) (l : List Nat) (hl : Byt l) (h8 : 8 ≤ l.length) (hlen : l.length ≤ 1500) (hm : valAt l 4 2 = l.length) (w : World) (hp : Has w pb 137 (pkt t 17 s d 0 0 0 ttl)) :
    Calls Tryz.prog 77 #[.pointer (some ⟨pb, 0, none⟩), .string (bs l)] w fun e w' => e = .returned (.int .i64 0) ∧ Has w' pb 137 (pkt t 17 s d (valAt l 0 2 : Nat) (valAt l 2 2 : Nat) 0 ttl) ∧ Chg (fun b => b = pb) w w' := by
  have HU := Lib.hid (uparse_c l hl h8 (by omega) hm)
  obtain ⟨x, hx⟩ : ∃ x, valAt l 0 2 = x := ⟨_, rfl⟩
  obtain ⟨y, hy⟩ : ∃ y, valAt l 2 2 = y := ⟨_, rfl⟩
  rw [hx, hy] at HU ⊢
  have c3 := hp.cell 3
  simp [pkt] at c3
  clear hm hx hy
  go_enter Tryz.func77, Tryz.ntmps77
  go_wp2_with fail
  refine (HU.out _).mono ?_
  rintro e w1 ⟨rfl, hb1⟩
  have hp1 := hp.below hb1
  have c6 := hp1.cell 6
  have c7 := hp1.cell 7
  have f6 := hp1.free 6
  have f7 := hp1.free 7
  simp [pkt] at c6 c7
  go_wp2_with fail
  go_ret
  refine ⟨rfl, ?_, (((Chg.of_below hb1 : Chg (fun b => b = pb) w w1).set rfl 6 _).set rfl 7 _)⟩
  have := (hp1.set 6 (.int .i64 x)).set 7 (.int .i64 y)
  simpa [pkt] using this
/-- A datagram in a packet, right in all. -/
structure FrU (l : List Nat) (s d sp dp ttl : Nat) : Prop where
  hdr : Hdr l
  fl : valAt l 6 2 = 0
  pr : valAt l 9 1 = 17
  tt : valAt l 8 1 = ttl
  sr : valAt l 12 4 = s
  ds : valAt l 16 4 = d
  seg : Seg 17 6 (l.drop 20)
  x : valAt (l.drop 20) 0 2 = sp
  y : valAt (l.drop 20) 2 2 = dp
  ok : ps8 17 s d (l.drop 20) = 65535
theorem zero137 (W : World) : (zeroValue 137).run Tryz.prog W = .ok (.agg #[.int .i64 0, .int .i64 0, .int .i64 0, .int .i64 0, .int .u32 0, .int .u32 0, .int .i64 0, .int .i64 0, .int .i64 0, .int .i64 0, .int .u32 0, .int .u32 0, .int .i64 0, .int .i64 0]) W := by kernel_rfl
set_option maxRecDepth 100000 in
set_option maxHeartbeats 3200000 in
theorem classify_u (l : List Nat) (s d sp dp ttl : Nat) (h : FrU l s d sp dp ttl) (w : World) :
    Calls Tryz.prog 41 #[.string (bs l)] w fun e w' => e = .returned (.tuple #[.agg (pkt l.length 17 s d sp dp 0 ttl), .int .i64 0]) ∧ Below w.heap.size w w' := by
  have hs : s < 4294967296 := by rw [← h.sr]; exact valAt_lt h.hdr.byt 12 4
  have hd : d < 4294967296 := by rw [← h.ds]; exact valAt_lt h.hdr.byt 16 4
  have HP := Lib.hid (parse4_c l h.hdr)
  have HZ := Lib.hid (size4_c l h.hdr)
  have hbl : Byt (l.drop 20) := byt_drop h.hdr.byt _
  have HE := Lib.hid (fun pb W hp => ends_u pb l.length s d ttl (l.drop 20) hbl h.seg.lo h.seg.hi (by rcases h.seg.kind with ⟨q, _⟩ | ⟨_, _, q⟩; cases q; exact q) W hp)
  rw [h.x, h.y] at HE
  have HV := Lib.hid (verify8_c 17 6 s d (l.drop 20) h.seg hs hd h.ok)
  unfold hdrV at HP
  rw [h.fl, h.pr, h.tt, h.sr, h.ds] at HP
  obtain ⟨t1, ht1⟩ : ∃ t1, valAt l 1 1 = t1 := ⟨_, rfl⟩
  obtain ⟨i1, hi1⟩ : ∃ i1, valAt l 4 2 = i1 := ⟨_, rfl⟩
  rw [ht1, hi1] at HP
  obtain ⟨body, hbody⟩ : ∃ body, l.drop 20 = body := ⟨_, rfl⟩
  rw [hbody] at HP HE HV
  have hz := zero137
  obtain ⟨L, hL⟩ : ∃ L, l.length = L := ⟨_, rfl⟩
  rw [hL] at HZ HE ⊢
  clear h ht1 hi1 hbl hbody hL
  go_enter Tryz.func41, Tryz.ntmps41
  go_wp2_with fail
  refine (HP.out _).mono ?_
  rintro e w1 ⟨rfl, hb1⟩
  have hr1 : Has w1 w.heap.size 137 #[.int .i64 0, .int .i64 0, .int .i64 0, .int .i64 0, .int .u32 0, .int .u32 0, .int .i64 0, .int .i64 0, .int .i64 0, .int .i64 0, .int .u32 0, .int .u32 0, .int .i64 0, .int .i64 0] := (Has.new w _ _).below hb1
  have B1 : Hid (Below w.heap.size w w1) := ((Below.refl _ _).alloc (Nat.le_refl _) _).trans (hb1.mono (by simp))
  have q1 := hb1.size
  simp at q1
  clear hb1
  go_wp2_with fail
  refine (HZ.out _).mono ?_
  rintro e w2 ⟨rfl, hb2⟩
  have hr2 : Has w2 w.heap.size 137 #[.int .i64 0, .int .i64 0, .int .i64 0, .int .i64 0, .int .u32 0, .int .u32 0, .int .i64 0, .int .i64 0, .int .i64 0, .int .i64 0, .int .u32 0, .int .u32 0, .int .i64 0, .int .i64 0] := ((hr1.alloc _).alloc _).below hb2
  have hh2 : Has w2 w1.heap.size 207 #[.int .i64 t1, .int .i64 i1, .int .i64 0, .int .i64 0, .int .i64 ttl, .int .i64 17, .int .u32 s, .int .u32 d, .string (bs [])] := ((Has.new w1 _ _).alloc _).below hb2
  have hp2 : Has w2 (w1.heap.size + 1) 137 #[.int .i64 1, .int .i64 0, .int .i64 0, .int .i64 17, .int .u32 s, .int .u32 d, .int .i64 0, .int .i64 0, .int .i64 0, .int .i64 ttl, .int .u32 s, .int .u32 d, .int .i64 0, .int .i64 0] := Has.below (has_at (by simp)) hb2
  have B2 : Hid (Below w.heap.size w w2) := ((B1.out.alloc B1.out.size _).alloc (by simp; have := B1.out.size; omega) _).trans (hb2.mono (by simp; have := B1.out.size; omega))
  have q2 := hb2.size
  simp at q2
  have k1 := hp2.cell 1
  have k2 := hp2.cell 2
  have m1 := hp2.free 1
  have m2 := hp2.free 2
  simp at k1 k2
  clear hb2 hr1 B1
  have hn1 : w.heap.size ≠ w1.heap.size + 1 := by omega
  have hn2 : w1.heap.size ≠ w1.heap.size + 1 := by omega
  have hr3 := (hr2.setOther 1 hn1 (.int .i64 20)).setOther 2 hn1 (.int .i64 L)
  have hh3 := (hh2.setOther 1 hn2 (.int .i64 20)).setOther 2 hn2 (.int .i64 L)
  have hp3 := (hp2.set 1 (.int .i64 20)).set 2 (.int .i64 L)
  have B3 := Lib.hid ((B2.out.setCell (p := ⟨w1.heap.size + 1, 1, none⟩) (by simp; omega) (.int .i64 20)).setCell (p := ⟨w1.heap.size + 1, 2, none⟩) (by simp; omega) (.int .i64 L))
  simp at hp3
  have h2 := hh3.cell 2
  have h3 := hh3.cell 3
  have h5 := hh3.cell 5
  simp at h2 h3 h5
  have hb0 : bits BinOp.and IntKind.i64 0 1 = 0 := by decide
  clear hr2 hh2 hp2 B2
  go_wp2_with fail
  refine (HE.out _ _ (by simpa [pkt] using hp3)).mono ?_
  rintro e w4 ⟨rfl, hp4, hc4⟩
  have hr4 : Has w4 w.heap.size 137 #[.int .i64 0, .int .i64 0, .int .i64 0, .int .i64 0, .int .u32 0, .int .u32 0, .int .i64 0, .int .i64 0, .int .i64 0, .int .i64 0, .int .u32 0, .int .u32 0, .int .i64 0, .int .i64 0] := (hc4.block _ hr3.lt hn1).trans hr3
  have hh4 : Has w4 w1.heap.size 207 #[.int .i64 t1, .int .i64 i1, .int .i64 0, .int .i64 0, .int .i64 ttl, .int .i64 17, .int .u32 s, .int .u32 d, .string (bs [])] := (hc4.block _ hh3.lt hn2).trans hh3
  have B4 := Lib.hid (B3.out.trans (hc4.below (fun b hb => by rw [hb]; omega) (by have := B3.out.size; simpa using this)))
  have h5 := hh4.cell 5
  have h6 := hh4.cell 6
  have h7 := hh4.cell 7
  simp at h5 h6 h7
  clear hc4 hr3 hh3 hp3 B3
  go_wp2_with fail
  refine (HV.out _).mono ?_
  rintro e w5 ⟨rfl, hb5⟩
  have hr6 := hr4.below hb5
  have hp6 : Has w5 (w1.heap.size + 1) 137 #[.int .i64 1, .int .i64 20, .int .i64 L, .int .i64 17, .int .u32 s, .int .u32 d, .int .i64 sp, .int .i64 dp, .int .i64 0, .int .i64 ttl, .int .u32 s, .int .u32 d, .int .i64 0, .int .i64 0] := by have := hp4.below hb5; simpa [pkt] using this
  have B6 := Lib.hid (B4.out.trans (hb5.mono B4.out.size))
  obtain ⟨w6, hw6⟩ : ∃ w6, w6 = w5 := ⟨_, rfl⟩
  rw [← hw6] at hr6 hp6 B6 ⊢
  clear hb5 hr4 hh4 hp4 B4 hw6
  have r0 := hr6.cell 0
  have s0 := hr6.free 0
  have p0 := hp6.cell 0
  have r1 := hr6.cell 1
  have s1 := hr6.free 1
  have p1 := hp6.cell 1
  have r2 := hr6.cell 2
  have s2 := hr6.free 2
  have p2 := hp6.cell 2
  have r3 := hr6.cell 3
  have s3 := hr6.free 3
  have p3 := hp6.cell 3
  have r4 := hr6.cell 4
  have s4 := hr6.free 4
  have p4 := hp6.cell 4
  have r5 := hr6.cell 5
  have s5 := hr6.free 5
  have p5 := hp6.cell 5
  have r6 := hr6.cell 6
  have s6 := hr6.free 6
  have p6 := hp6.cell 6
  have r7 := hr6.cell 7
  have s7 := hr6.free 7
  have p7 := hp6.cell 7
  have r8 := hr6.cell 8
  have s8 := hr6.free 8
  have p8 := hp6.cell 8
  have r9 := hr6.cell 9
  have s9 := hr6.free 9
  have p9 := hp6.cell 9
  have r10 := hr6.cell 10
  have s10 := hr6.free 10
  have p10 := hp6.cell 10
  have r11 := hr6.cell 11
  have s11 := hr6.free 11
  have p11 := hp6.cell 11
  have r12 := hr6.cell 12
  have s12 := hr6.free 12
  have p12 := hp6.cell 12
  have r13 := hr6.cell 13
  have s13 := hr6.free 13
  have p13 := hp6.cell 13
  simp at r0 r1 r2 r3 r4 r5 r6 r7 r8 r9 r10 r11 r12 r13 p0 p1 p2 p3 p4 p5 p6 p7 p8 p9 p10 p11 p12 p13
  go_wp2_with fail
  have hr7 := ((((((((((((((hr6.set 0 (.int .i64 1)).set 1 (.int .i64 20)).set 2 (.int .i64 L)).set 3 (.int .i64 17)).set 4 (.int .u32 s)).set 5 (.int .u32 d)).set 6 (.int .i64 sp)).set 7 (.int .i64 dp)).set 8 (.int .i64 0)).set 9 (.int .i64 ttl)).set 10 (.int .u32 s)).set 11 (.int .u32 d)).set 12 (.int .i64 0)).set 13 (.int .i64 0))
  have B7 := Lib.hid ((((((((((((((B6.out.setCell (p := ⟨w.heap.size, 0, none⟩) (Nat.le_refl _) (.int .i64 1)).setCell (p := ⟨w.heap.size, 1, none⟩) (Nat.le_refl _) (.int .i64 20)).setCell (p := ⟨w.heap.size, 2, none⟩) (Nat.le_refl _) (.int .i64 L)).setCell (p := ⟨w.heap.size, 3, none⟩) (Nat.le_refl _) (.int .i64 17)).setCell (p := ⟨w.heap.size, 4, none⟩) (Nat.le_refl _) (.int .u32 s)).setCell (p := ⟨w.heap.size, 5, none⟩) (Nat.le_refl _) (.int .u32 d)).setCell (p := ⟨w.heap.size, 6, none⟩) (Nat.le_refl _) (.int .i64 sp)).setCell (p := ⟨w.heap.size, 7, none⟩) (Nat.le_refl _) (.int .i64 dp)).setCell (p := ⟨w.heap.size, 8, none⟩) (Nat.le_refl _) (.int .i64 0)).setCell (p := ⟨w.heap.size, 9, none⟩) (Nat.le_refl _) (.int .i64 ttl)).setCell (p := ⟨w.heap.size, 10, none⟩) (Nat.le_refl _) (.int .u32 s)).setCell (p := ⟨w.heap.size, 11, none⟩) (Nat.le_refl _) (.int .u32 d)).setCell (p := ⟨w.heap.size, 12, none⟩) (Nat.le_refl _) (.int .i64 0)).setCell (p := ⟨w.heap.size, 13, none⟩) (Nat.le_refl _) (.int .i64 0))
  simp at hr7
  obtain ⟨w7, hw7⟩ : ∃ w7, w7 = ((((((((((((((w6.setCell ⟨w.heap.size, 0, none⟩ (.int .i64 1)).setCell ⟨w.heap.size, 1, none⟩ (.int .i64 20)).setCell ⟨w.heap.size, 2, none⟩ (.int .i64 L)).setCell ⟨w.heap.size, 3, none⟩ (.int .i64 17)).setCell ⟨w.heap.size, 4, none⟩ (.int .u32 s)).setCell ⟨w.heap.size, 5, none⟩ (.int .u32 d)).setCell ⟨w.heap.size, 6, none⟩ (.int .i64 sp)).setCell ⟨w.heap.size, 7, none⟩ (.int .i64 dp)).setCell ⟨w.heap.size, 8, none⟩ (.int .i64 0)).setCell ⟨w.heap.size, 9, none⟩ (.int .i64 ttl)).setCell ⟨w.heap.size, 10, none⟩ (.int .u32 s)).setCell ⟨w.heap.size, 11, none⟩ (.int .u32 d)).setCell ⟨w.heap.size, 12, none⟩ (.int .i64 0)).setCell ⟨w.heap.size, 13, none⟩ (.int .i64 0)) := ⟨_, rfl⟩
  rw [← hw7] at hr7 B7 ⊢
  clear hw7 r0 s0 p0 r1 s1 p1 r2 s2 p2 r3 s3 p3 r4 s4 p4 r5 s5 p5 r6 s6 p6 r7 s7 p7 r8 s8 p8 r9 s9 p9 r10 s10 p10 r11 s11 p11 r12 s12 p12 r13 s13 p13 hr6 hp6 B6
  have c0 := hr7.cell 0
  have c1 := hr7.cell 1
  have c2 := hr7.cell 2
  have c3 := hr7.cell 3
  have c4 := hr7.cell 4
  have c5 := hr7.cell 5
  have c6 := hr7.cell 6
  have c7 := hr7.cell 7
  have c8 := hr7.cell 8
  have c9 := hr7.cell 9
  have c10 := hr7.cell 10
  have c11 := hr7.cell 11
  have c12 := hr7.cell 12
  have c13 := hr7.cell 13
  simp at c0 c1 c2 c3 c4 c5 c6 c7 c8 c9 c10 c11 c12 c13
  refine bodyPost_ret (v := .tuple #[.agg #[.int .i64 1, .int .i64 20, .int .i64 L, .int .i64 17, .int .u32 s, .int .u32 d, .int .i64 sp, .int .i64 dp, .int .i64 0, .int .i64 ttl, .int .u32 s, .int .u32 d, .int .i64 0, .int .i64 0], .int .i64 0]) ?_ rfl ⟨by simp [pkt], B7.out⟩
  simp [results, Tryz.f41, go_sem, c0, c1, c2, c3, c4, c5, c6, c7, c8, c9, c10, c11, c12, c13]
end Go.Proofs.YtngdebpaheejlaaGreatDoor
