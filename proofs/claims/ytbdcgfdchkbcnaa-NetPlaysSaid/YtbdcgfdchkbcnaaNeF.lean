/- net: Send of one packet. -/
import Derived.Test.YtbdcgfdchkbcnaaNeE
namespace Go.Proofs.Ytbdcgfdchkbcnaa.Ne
open Go.RowKit Go.Proofs.Ytbdcgfdchkbcnaa.L Go.Proofs.Ytbdcgfdchkbcnaa.R Go.Proofs.Ytbdcgfdchkbcnaa.A Go.Proofs.Ytbdcgfdchkbcnaa.S Go.Proofs.Ytbdcgfdchkbcnaa.T Go.Proofs.Ytbdcgfdchkbcnaa.C Go.Proofs.Ytbdcgfdchkbcnaa.G Go.Proofs.Ytbdcgfdchkbcnaa.E
set_option linter.unusedVariables false
set_option linter.unusedSimpArgs false

theorem own_form4 {w : World} {base : Nat} {e : TypeId} {sz : Nat} {v : Value} {n : Nat} {xs : List Value} (h : w.ownsRow base e sz v n xs) : ∃ A c, v = .slice A n c := by
  rcases h.2 with ⟨rfl, rfl⟩ | ⟨g, cap, cur, rfl, _⟩
  · exact ⟨none, 0, rfl⟩
  · exact ⟨_, cap, rfl⟩
structure PushN (b mb nodes n : Nat) (f : Int → Int → Bool) (sz x : Nat) (v0 : Value) (L : List Value) (k : Nat) (px py : Int) (ps : ByteArray) (pq : Bool) (f7 f10 : Bool) (W : World) : Prop where
  blk : f10 = false → W.heap[b]? = some (.cells #[.int .i64 nodes, .map (some mb), v0] 106 (0, 0)) ∧ W.cell? ⟨b, 2, none⟩ = some v0
  own : f7 = false → W.ownsRow (b + 1) PT 4 v0 k L
  map : WayMap W mb n f
  ent : W.heap[x]? = some (.cells #[.int .i64 px, .int .i64 py, .string ps, .bool pq] PT (0, 0))
  last : f10 = true → ∃ v, Nt W b mb nodes n f v (L ++ [.int .i64 px, .int .i64 py, .string ps, .bool pq]) (k + 1) ∧ (v.ownBlock = v0.ownBlock ∨ ∀ k, v.ownBlock = some k → sz ≤ k)
  szw : sz ≤ W.heap.size
  sb : b < sz
  mbb : mb < b
  bx : x ≠ b
  gx : v0.ownBlock ≠ some x
  gb : ∀ j, v0.ownBlock = some j → b + 1 ≤ j
section
variable {b mb nodes n : Nat} {f : Int → Int → Bool} {sz x : Nat} {v0 : Value} {L : List Value} {k : Nat} {px py : Int} {ps : ByteArray} {pq f7 f10 : Bool} {W W' : World}
theorem PushN.below (h : PushN b mb nodes n f sz x v0 L k px py ps pq f7 f10 W) (hb : Below W.heap.size W W') : PushN b mb nodes n f sz x v0 L k px py ps pq f7 f10 W' := by
  have hk : Keep [] W W' := .of_below hb
  exact ⟨fun hf => ⟨keep_block hk (h.blk hf).1 (by simp), keep_cell hk (h.blk hf).2 (by simp)⟩, fun hf => own_kept (h.own hf) hb, h.map.keep hk (by simp), keep_block hk h.ent (by simp),
    fun hf => (by obtain ⟨v, hc, hv⟩ := h.last hf; exact ⟨v, hc.below hb, hv⟩), Nat.le_trans h.szw hk.size, h.sb, h.mbb, h.bx, h.gx, h.gb⟩
theorem PushN.app (h : PushN b mb nodes n f sz x v0 L k px py ps pq false false W) (hk : Keep v0.ownBlock.toList W W') : PushN b mb nodes n f sz x v0 L k px py ps pq true false W' := by
  have hb : b ∉ v0.ownBlock.toList := fun hm => by have := h.gb b (by simpa using hm); omega
  have hmb : mb ∉ v0.ownBlock.toList := fun hm => by have := h.gb mb (by simpa using hm); have := h.mbb; omega
  have hx : x ∉ v0.ownBlock.toList := fun hm => h.gx (by simpa using hm)
  exact ⟨fun hf => ⟨keep_block hk (h.blk rfl).1 hb, keep_cell hk (h.blk rfl).2 hb⟩, (fun h => by cases h), h.map.keep hk hmb, keep_block hk h.ent hx, (fun h => by cases h), Nat.le_trans h.szw hk.size, h.sb, h.mbb, h.bx, h.gx, h.gb⟩
theorem PushN.fin {v : Value} (h : PushN b mb nodes n f sz x v0 L k px py ps pq true false W) (ho : W.ownsRow (b + 1) PT 4 v (k + 1) (L ++ [.int .i64 px, .int .i64 py, .string ps, .bool pq])) (hv : v.ownBlock = v0.ownBlock ∨ ∀ k, v.ownBlock = some k → sz ≤ k) :
    PushN b mb nodes n f sz x v0 L k px py ps pq true true (W.setCell ⟨b, 2, none⟩ v) := by
  have hk : Keep [b] W (W.setCell ⟨b, 2, none⟩ v) := (Keep.refl _ _).setCell (p := ⟨b, 2, none⟩) (.inl (by simp)) _
  have hx : x ∉ [b] := by have := h.bx; simpa using this
  have hmb : mb ∉ [b] := by have := h.mbb; simp; omega
  exact ⟨(fun h => by cases h), (fun h => by cases h), h.map.keep hk hmb, keep_block hk h.ent hx, (fun _ => ⟨v, ⟨(Go.Proofs.Ytbdcgfdchkbcnaa.L.heap_setCell_at W b 2 _ _ _ v (h.blk rfl).1).trans rfl, own_keep ho hk (fun k hk => by have := (own_lt ho k hk).1; simp; omega), h.map.keep hk hmb, h.mbb⟩, hv⟩), Nat.le_trans h.szw hk.size, h.sb, h.mbb, h.bx, h.gx, h.gb⟩
end
/-- the net goes on with other packets. -/
def GoesN (b mb nodes n : Nat) (f : Int → Int → Bool) (v : Value) (L' : List Value) (k' : Nat) (w w' : World) : Prop := ∃ v', Nt w' b mb nodes n f v' L' k' ∧ Keep (b :: v.ownBlock.toList) w w' ∧ (v'.ownBlock = v.ownBlock ∨ ∀ k, v'.ownBlock = some k → w.heap.size ≤ k)
set_option maxHeartbeats 8000000 in
set_option maxRecDepth 100000 in
theorem send_one (b mb nodes n : Nat) (f : Int → Int → Bool) (VV : Value) (L : List Value) (k : Nat) (px py : Int) (ps : ByteArray) (pq : Bool) (g o c : Nat) (w : World) (h : Nt w b mb nodes n f VV L k) (hk : k < 256) (hx : (Lit.int .i64 px).wf = true) (hy : (Lit.int .i64 py).wf = true)
    (c0 : w.cell? ⟨g, o, none⟩ = some (.int .i64 px)) (c1 : w.cell? ⟨g, o + 1, none⟩ = some (.int .i64 py)) (c2 : w.cell? ⟨g, o + 2, none⟩ = some (.string ps)) (c3 : w.cell? ⟨g, o + 3, none⟩ = some (.bool pq)) :
    Calls Try.prog 17 #[.pointer (some ⟨b, 0, none⟩), .slice (some ⟨g, o, none⟩) 1 c] w fun e w' => e = .returned (.int .i64 (if wholeB nodes f px py then 0 else 1)) ∧ if wholeB nodes f px py then GoesN b mb nodes n f VV (L ++ [.int .i64 px, .int .i64 py, .string ps, .bool pq]) (k + 1) w w' else Below w.heap.size w w' := by
  have HWH0 : Hid (∀ wx, Nt wx b mb nodes n f VV L k → Calls Try.prog 63 #[.pointer (some ⟨b, 0, none⟩), .int .i64 px, .int .i64 py] wx fun e w' => e = .returned (.bool (wholeB nodes f px py)) ∧ Below wx.heap.size wx w') := Lib.hid fun wx hn => whole_any b nodes mb n f px py wx hn.cell.1 hn.cell.2.1 hn.map hx hy
  obtain ⟨wq, hwq⟩ : ∃ wq, wholeB nodes f px py = wq := ⟨_, rfl⟩
  rw [hwq] at HWH0 ⊢
  obtain ⟨xb, hxb⟩ : ∃ xb, w.heap.size = xb := ⟨_, rfl⟩
  obtain ⟨W, hW⟩ : ∃ W, w.alloc (.cells #[.int .i64 px, .int .i64 py, .string ps, .bool pq] PT) = W := ⟨_, rfl⟩
  have hb0 : Below w.heap.size w W := by rw [← hW]; exact below_alloc _ _
  have HX : Hid (W.heap[xb]? = some (.cells #[.int .i64 px, .int .i64 py, .string ps, .bool pq] PT (0, 0))) := Lib.hid (by rw [← hW, ← hxb]; exact heap_alloc_new _ _)
  have hN := h.below hb0
  obtain ⟨VA, vc, hv⟩ := own_form4 h.own
  have hVV : Hid (VV = .slice VA k vc) := Lib.hid hv
  have hk256 : Hid (k < 256) := Lib.hid hk
  have hkd : decide ((256 : Int) ≤ (k : Int)) = false := by simp; omega
  have hlt := (Array.getElem?_eq_some_iff.1 h.blk).1
  have hgb : ∀ j, VV.ownBlock = some j → b + 1 ≤ j ∧ j < w.heap.size := fun j hj => own_lt h.own j hj
  have HPS : Hid (∀ W', Below W.heap.size W W' → PushN b mb nodes n f W'.heap.size xb VV L k px py ps pq false false W'.drew) := Lib.hid fun W' hb => by
    have hn' := hN.below hb
    have hs' : xb < W'.heap.size := Nat.lt_of_lt_of_le (Array.getElem?_eq_some_iff.1 HX.out).1 hb.size
    exact ⟨fun _ => ⟨hn'.blk, hn'.cell.2.2.1⟩, fun _ => hn'.own, hn'.map.keep (.of_below (S := []) (below_drewN 1 W')) (by simp), (hb.block xb (Array.getElem?_eq_some_iff.1 HX.out).1).trans HX.out, (fun h => by cases h), Nat.le_refl _, by omega, h.mb, by omega, fun hh => by have := (hgb _ hh).2; omega, fun j hj => (hgb j hj).1⟩
  have HRL : Hid (∀ W' W2, Below W.heap.size W W' → PushN b mb nodes n f W'.heap.size xb VV L k px py ps pq true true W2 → Keep (b :: VV.ownBlock.toList) W'.drew W2 → GoesN b mb nodes n f VV (L ++ [.int .i64 px, .int .i64 py, .string ps, .bool pq]) (k + 1) w W2) := Lib.hid fun W' W2 hb hp hkk => by
    obtain ⟨v', hnt, hv'⟩ := hp.last rfl
    have hbw := below2 hb0 hb
    exact ⟨v', hnt, ((Keep.of_below hbw).drew).trans hkk, hv'.imp id fun hq j hj => Nat.le_trans hbw.size (hq j hj)⟩
  have HN := Lib.hid hN
  have HB0 := Lib.hid hb0
  have HW0 := Lib.hid hW
  have HXB := Lib.hid hxb
  clear h hN hb0 hW hxb hv hgb hlt hk hwq hx hy
  go_enter Try.func17, Try.ntmps17
  go_wp2
  go_loopw [5, 10] (fun u i wr => (i = .int .i64 0 ∧ u = .int .i64 0 ∧ w = wr) ∨ (i = .int .i64 1 ∧ u = .int .i64 (if wq then 0 else 1) ∧ if wq then GoesN b mb nodes n f VV (L ++ [.int .i64 px, .int .i64 py, .string ps, .bool pq]) (k + 1) w wr else Below w.heap.size w wr)) (fun _ i _ => 1 - (intOf i).toNat)
  case atStart => exact .inl ⟨rfl, rfl, rfl⟩
  case round =>
    rcases hrel with ⟨rfl, rfl, rfl⟩ | ⟨rfl, rfl, hfin⟩
    · cases wq with
      | false =>
        have HWH := HWH0
        have HREL : Hid (∀ W', Below W.heap.size W W' → Below w.heap.size w W') := Lib.hid fun W' hb => below2 HB0.out hb
        go_wp2_with fail
        rw [HW0.out, HXB.out]
        have hS0 : Below W.heap.size W W.drew := below_drewN 1 W
        refine wp_region_one (fun W' => Below W.heap.size W W') (fun u v => Below u.heap.size u v) (fun a i => match i with
            | 0 => (fun v _ => v = .pointer (some ⟨b, 0, none⟩))
            | 1 => (fun v _ => v = .bool false)
            | 2 => (fun v _ => v = .bool false)
            | 3 => (fun v _ => v = .pointer (some ⟨b, 0, none⟩))
            | 4 => (fun v _ => v = .pointer (some ⟨b, 0, none⟩))
            | 5 => (fun v _ => v = .pointer (some ⟨b, 0, none⟩))
            | 6 => (fun v _ => v = .pointer (some ⟨xb, 0, none⟩))
            | 7 => (fun v _ => v = .int .i64 px)
            | 8 => (fun v _ => v = .pointer (some ⟨xb, 1, none⟩))
            | 9 => (fun v _ => v = .int .i64 py)
            | 10 => (fun v _ => v = .bool false)
            | 11 => (fun v _ => v = .bool true)
            | 12 => (fun v _ => v = .bool true)
            | 13 => (fun v _ => v = .bool true)
            | 14 => (fun v _ => v = undef)
            | 15 => (fun v _ => v = undef)
            | 16 => (fun v _ => v = undef)
            | 17 => (fun v _ => v = undef)
            | 18 => (fun v _ => v = undef)
            | 19 => (fun v _ => v = undef)
            | 20 => (fun v _ => v = .bool true)
            | _ => (fun _ _ => True)) #[0, 1, 3, 7, 15, 31, 7, 71, 7, 263, 1023, 2047, 4095, 8191, 16383, 32767, 65535, 131071, 262143, 524287, 1048575] #[0, 1, 2, 4, 12, 20, 4, 68, 4, 260, 676, 1028, 2052, 4096, 8192, 24576, 40960, 73728, 139264, 270336, 532480] 2097151 (by kernel_rfl) 21 rfl (fun m hm => by subst hm; kernel_rfl) (by kernel_rfl) (fun w => Below.refl _ w) (fun u v w h1 h2 => below2 h1 h2) ?_ (hS0) ?_ ?_
        · intro i hi
          rcases (by omega : i = 0 ∨ i = 1 ∨ i = 2 ∨ i = 3 ∨ i = 4 ∨ i = 5 ∨ i = 6 ∨ i = 7 ∨ i = 8 ∨ i = 9 ∨ i = 10 ∨ i = 11 ∨ i = 12 ∨ i = 13 ∨ i = 14 ∨ i = 15 ∨ i = 16 ∨ i = 17 ∨ i = 18 ∨ i = 19 ∨ i = 20) with rfl | rfl | rfl | rfl | rfl | rfl | rfl | rfl | rfl | rfl | rfl | rfl | rfl | rfl | rfl | rfl | rfl | rfl | rfl | rfl | rfl
          · exact fun v w w' h hr => by exact h
          · exact fun v w w' h hr => by exact h
          · exact fun v w w' h hr => by exact h
          · exact fun v w w' h hr => by exact h
          · exact fun v w w' h hr => by exact h
          · exact fun v w w' h hr => by exact h
          · exact fun v w w' h hr => by exact h
          · exact fun v w w' h hr => by exact h
          · exact fun v w w' h hr => by exact h
          · exact fun v w w' h hr => by exact h
          · exact fun v w w' h hr => by exact h
          · exact fun v w w' h hr => by exact h
          · exact fun v w w' h hr => by exact h
          · exact fun v w w' h hr => by exact h
          · exact fun v w w' h hr => by exact h
          · exact fun v w w' h hr => by exact h
          · exact fun v w w' h hr => by exact h
          · exact fun v w w' h hr => by exact h
          · exact fun v w w' h hr => by exact h
          · exact fun v w w' h hr => by exact h
          · exact fun v w w' h hr => by exact h
        · intro i hi
          rcases (by omega : i = 0 ∨ i = 1 ∨ i = 2 ∨ i = 3 ∨ i = 4 ∨ i = 5 ∨ i = 6 ∨ i = 7 ∨ i = 8 ∨ i = 9 ∨ i = 10 ∨ i = 11 ∨ i = 12 ∨ i = 13 ∨ i = 14 ∨ i = 15 ∨ i = 16 ∨ i = 17 ∨ i = 18 ∨ i = 19 ∨ i = 20) with rfl | rfl | rfl | rfl | rfl | rfl | rfl | rfl | rfl | rfl | rfl | rfl | rfl | rfl | rfl | rfl | rfl | rfl | rfl | rfl | rfl
          · -- 0: Op.move (Operand.tmp 0)
            intro l hl vs W hS hR hp
            obtain rfl : l = [] := hl.symm.trans (by kernel_rfl)
            clear hp hl
            refine opgoal (_) (some 14) rfl rfl fun K hK => ?_
            refine Runs.mk ?_
            simp only [putAll]
            go_simp
            refine hK _ _ ?_ hS ((fun w => Below.refl _ w) W) _ rfl rfl
            first | rfl | go_simp | simp
          · -- 1: Op.binOp BinOp.eql 24 (Operand.tmp 14) (Operand.const (Value.pointer none)) 24
            intro l hl vs W hS hR hp
            obtain rfl : l = [(0, 14)] := hl.symm.trans (by kernel_rfl)
            have p0 : vs 0 = _ := hp 0 (by decide) (by decide)
            clear hp hl
            refine opgoal (_) (some 15) rfl rfl fun K hK => ?_
            refine Runs.mk ?_
            simp only [putAll]
            go_simp
            refine hK _ _ ?_ hS ((fun w => Below.refl _ w) W) _ rfl rfl
            first | rfl | go_simp | simp
          · -- 2: Op.move (Operand.tmp 15)
            intro l hl vs W hS hR hp
            obtain rfl : l = [(0, 14), (1, 15)] := hl.symm.trans (by kernel_rfl)
            have p1 : vs 1 = _ := hp 1 (by decide) (by decide)
            clear hp hl
            refine opgoal (_) (some 16) rfl rfl fun K hK => ?_
            refine Runs.mk ?_
            simp only [putAll]
            go_simp
            refine hK _ _ ?_ hS ((fun w => Below.refl _ w) W) _ rfl rfl
            first | rfl | go_simp | simp
          · -- 3: Op.move (Operand.tmp 0)  [(2, 'false')]
            intro l hl vs W hS hR hp
            obtain rfl : l = [(0, 14), (1, 15), (2, 16)] := hl.symm.trans (by kernel_rfl)
            have p2 : vs 2 = _ := hp 2 (by decide) (by decide)
            clear hp hl
            refine opgoal (_) (some 17) rfl rfl fun K hK => ?_
            refine Runs.mk ?_
            simp only [putAll]
            go_simp
            refine hK _ _ ?_ hS ((fun w => Below.refl _ w) W) _ rfl rfl
            first | rfl | go_simp | simp
          · -- 4: Op.nilCheck (Operand.tmp 17)  [(2, 'false')]
            intro l hl vs W hS hR hp
            obtain rfl : l = [(0, 14), (1, 15), (2, 16), (3, 17)] := hl.symm.trans (by kernel_rfl)
            have p2 : vs 2 = _ := hp 2 (by decide) (by decide)
            have p3 : vs 3 = _ := hp 3 (by decide) (by decide)
            clear hp hl
            refine opgoal (_) (some 18) rfl rfl fun K hK => ?_
            refine Runs.mk ?_
            simp only [putAll]
            go_simp
            refine hK _ _ ?_ hS ((fun w => Below.refl _ w) W) _ rfl rfl
            first | rfl | go_simp | simp
          · -- 5: Op.fieldAddr 106 (Operand.tmp 18) 0  [(2, 'false')]
            intro l hl vs W hS hR hp
            obtain rfl : l = [(0, 14), (1, 15), (2, 16), (3, 17), (4, 18)] := hl.symm.trans (by kernel_rfl)
            have p2 : vs 2 = _ := hp 2 (by decide) (by decide)
            have p4 : vs 4 = _ := hp 4 (by decide) (by decide)
            clear hp hl
            refine opgoal (_) (some 19) rfl rfl fun K hK => ?_
            refine Runs.mk ?_
            simp only [putAll]
            go_simp
            refine hK _ _ ?_ hS ((fun w => Below.refl _ w) W) _ rfl rfl
            first | rfl | go_simp | simp
          · -- 6: Op.fieldAddr 29 (Operand.tmp 7) 0  [(2, 'false')]
            intro l hl vs W hS hR hp
            obtain rfl : l = [(0, 14), (1, 15), (2, 16)] := hl.symm.trans (by kernel_rfl)
            have p2 : vs 2 = _ := hp 2 (by decide) (by decide)
            clear hp hl
            refine opgoal (_) (some 20) rfl rfl fun K hK => ?_
            refine Runs.mk ?_
            simp only [putAll]
            go_simp
            refine hK _ _ ?_ hS ((fun w => Below.refl _ w) W) _ rfl rfl
            first | rfl | go_simp | simp
          · -- 7: Op.load 3 (Operand.tmp 20)  [(2, 'false')]
            intro l hl vs W hS hR hp
            obtain rfl : l = [(0, 14), (1, 15), (2, 16), (6, 20)] := hl.symm.trans (by kernel_rfl)
            have p2 : vs 2 = _ := hp 2 (by decide) (by decide)
            have p6 : vs 6 = _ := hp 6 (by decide) (by decide)
            clear hp hl
            refine opgoal (_) (some 21) rfl rfl fun K hK => ?_
            obtain ⟨f0, f1, f2, f3⟩ := pk_cells ((hS.block _ (Array.getElem?_eq_some_iff.1 HX.out).1).trans HX.out)
            refine Runs.mk ?_
            simp only [putAll]
            go_simp
            refine hK _ _ ?_ hS ((fun w => Below.refl _ w) W) _ rfl rfl
            first | rfl | go_simp | simp
          · -- 8: Op.fieldAddr 29 (Operand.tmp 7) 1  [(2, 'false')]
            intro l hl vs W hS hR hp
            obtain rfl : l = [(0, 14), (1, 15), (2, 16)] := hl.symm.trans (by kernel_rfl)
            have p2 : vs 2 = _ := hp 2 (by decide) (by decide)
            clear hp hl
            refine opgoal (_) (some 22) rfl rfl fun K hK => ?_
            refine Runs.mk ?_
            simp only [putAll]
            go_simp
            refine hK _ _ ?_ hS ((fun w => Below.refl _ w) W) _ rfl rfl
            first | rfl | go_simp | simp
          · -- 9: Op.load 3 (Operand.tmp 22)  [(2, 'false')]
            intro l hl vs W hS hR hp
            obtain rfl : l = [(0, 14), (1, 15), (2, 16), (8, 22)] := hl.symm.trans (by kernel_rfl)
            have p2 : vs 2 = _ := hp 2 (by decide) (by decide)
            have p8 : vs 8 = _ := hp 8 (by decide) (by decide)
            clear hp hl
            refine opgoal (_) (some 23) rfl rfl fun K hK => ?_
            obtain ⟨f0, f1, f2, f3⟩ := pk_cells ((hS.block _ (Array.getElem?_eq_some_iff.1 HX.out).1).trans HX.out)
            refine Runs.mk ?_
            simp only [putAll]
            go_simp
            refine hK _ _ ?_ hS ((fun w => Below.refl _ w) W) _ rfl rfl
            first | rfl | go_simp | simp
          · -- 10: Op.call { callee := Callee.value (Operand.func 63), args := #[Operand.tmp 19, Operand.tmp 21, Operand.tmp 23], argTypes := #[104, 3, 3] }  [(2, 'false')]
            intro l hl vs W hS hR hp
            obtain rfl : l = [(0, 14), (1, 15), (2, 16), (3, 17), (4, 18), (5, 19), (6, 20), (7, 21), (8, 22), (9, 23)] := hl.symm.trans (by kernel_rfl)
            have p2 : vs 2 = _ := hp 2 (by decide) (by decide)
            have p5 : vs 5 = _ := hp 5 (by decide) (by decide)
            have p7 : vs 7 = _ := hp 7 (by decide) (by decide)
            have p9 : vs 9 = _ := hp 9 (by decide) (by decide)
            clear hp hl
            refine opgoal (_) (some 24) rfl rfl fun K hK => ?_
            refine Runs.mk ?_
            simp only [putAll]
            go_simp
            refine (HWH.out W (HN.out.below hS)).mono ?_
            rintro e w' ⟨rfl, hb⟩
            go_simp
            exact hK _ _ rfl (below2 hS hb) hb _ rfl rfl
          · -- 11: Op.unOp UnOp.not 4 (Operand.tmp 24)  [(2, 'false')]
            intro l hl vs W hS hR hp
            obtain rfl : l = [(0, 14), (1, 15), (2, 16), (3, 17), (4, 18), (5, 19), (6, 20), (7, 21), (8, 22), (9, 23), (10, 24)] := hl.symm.trans (by kernel_rfl)
            have p2 : vs 2 = _ := hp 2 (by decide) (by decide)
            have p10 : vs 10 = _ := hp 10 (by decide) (by decide)
            clear hp hl
            refine opgoal (_) (some 25) rfl rfl fun K hK => ?_
            refine Runs.mk ?_
            simp only [putAll]
            go_simp
            refine hK _ _ ?_ hS ((fun w => Below.refl _ w) W) _ rfl rfl
            first | rfl | go_simp | simp
          · -- 12: Op.pick (Operand.tmp 16) (Operand.const (Value.bool true)) (Operand.tmp 25)
            intro l hl vs W hS hR hp
            obtain rfl : l = [(0, 14), (1, 15), (2, 16), (3, 17), (4, 18), (5, 19), (6, 20), (7, 21), (8, 22), (9, 23), (10, 24), (11, 25)] := hl.symm.trans (by kernel_rfl)
            have p2 : vs 2 = _ := hp 2 (by decide) (by decide)
            have p11 : vs 11 = _ := hp 11 (by decide) (by decide)
            clear hp hl
            refine opgoal (_) (some 26) rfl rfl fun K hK => ?_
            refine Runs.mk ?_
            simp only [putAll]
            go_simp
            refine hK _ _ ?_ hS ((fun w => Below.refl _ w) W) _ rfl rfl
            first | rfl | go_simp | simp
          · -- 13: Op.move (Operand.tmp 26)
            intro l hl vs W hS hR hp
            obtain rfl : l = [(0, 14), (1, 15), (2, 16), (3, 17), (4, 18), (5, 19), (6, 20), (7, 21), (8, 22), (9, 23), (10, 24), (11, 25), (12, 26)] := hl.symm.trans (by kernel_rfl)
            have p12 : vs 12 = _ := hp 12 (by decide) (by decide)
            clear hp hl
            refine opgoal (_) (some 27) rfl rfl fun K hK => ?_
            refine Runs.mk ?_
            simp only [putAll]
            go_simp
            refine hK _ _ ?_ hS ((fun w => Below.refl _ w) W) _ rfl rfl
            first | rfl | go_simp | simp
          · -- 14: Op.move (Operand.tmp 0)  [(13, 'false')]
            intro l hl vs W hS hR hp
            obtain rfl : l = [(0, 14), (1, 15), (2, 16), (3, 17), (4, 18), (5, 19), (6, 20), (7, 21), (8, 22), (9, 23), (10, 24), (11, 25), (12, 26), (13, 27)] := hl.symm.trans (by kernel_rfl)
            have p13 : vs 13 = _ := hp 13 (by decide) (by decide)
            clear hp hl
            refine opgoal (_) (some 28) rfl rfl fun K hK => ?_
            refine Runs.mk ?_
            simp only [putAll]
            go_simp
            refine hK _ _ ?_ hS ((fun w => Below.refl _ w) W) _ rfl rfl
            first | rfl | go_simp | simp
          · -- 15: Op.nilCheck (Operand.tmp 28)  [(13, 'false')]
            intro l hl vs W hS hR hp
            obtain rfl : l = [(0, 14), (1, 15), (2, 16), (3, 17), (4, 18), (5, 19), (6, 20), (7, 21), (8, 22), (9, 23), (10, 24), (11, 25), (12, 26), (13, 27), (14, 28)] := hl.symm.trans (by kernel_rfl)
            have p13 : vs 13 = _ := hp 13 (by decide) (by decide)
            have p14 : vs 14 = _ := hp 14 (by decide) (by decide)
            clear hp hl
            refine opgoal (_) (some 29) rfl rfl fun K hK => ?_
            refine Runs.mk ?_
            simp only [putAll]
            go_simp
            refine hK _ _ ?_ hS ((fun w => Below.refl _ w) W) _ rfl rfl
            first | rfl | go_simp | simp
          · -- 16: Op.fieldAddr 106 (Operand.tmp 29) 1  [(13, 'false')]
            intro l hl vs W hS hR hp
            obtain rfl : l = [(0, 14), (1, 15), (2, 16), (3, 17), (4, 18), (5, 19), (6, 20), (7, 21), (8, 22), (9, 23), (10, 24), (11, 25), (12, 26), (13, 27), (14, 28), (15, 29)] := hl.symm.trans (by kernel_rfl)
            have p13 : vs 13 = _ := hp 13 (by decide) (by decide)
            have p15 : vs 15 = _ := hp 15 (by decide) (by decide)
            clear hp hl
            refine opgoal (_) (some 30) rfl rfl fun K hK => ?_
            refine Runs.mk ?_
            simp only [putAll]
            go_simp
            refine hK _ _ ?_ hS ((fun w => Below.refl _ w) W) _ rfl rfl
            first | rfl | go_simp | simp
          · -- 17: Op.load 22 (Operand.tmp 30)  [(13, 'false')]
            intro l hl vs W hS hR hp
            obtain rfl : l = [(0, 14), (1, 15), (2, 16), (3, 17), (4, 18), (5, 19), (6, 20), (7, 21), (8, 22), (9, 23), (10, 24), (11, 25), (12, 26), (13, 27), (14, 28), (15, 29), (16, 30)] := hl.symm.trans (by kernel_rfl)
            have p13 : vs 13 = _ := hp 13 (by decide) (by decide)
            have p16 : vs 16 = _ := hp 16 (by decide) (by decide)
            clear hp hl
            refine opgoal (_) (some 31) rfl rfl fun K hK => ?_
            refine Runs.mk ?_
            simp only [putAll]
            go_simp
            refine hK _ _ ?_ hS ((fun w => Below.refl _ w) W) _ rfl rfl
            first | rfl | go_simp | simp
          · -- 18: Op.call { callee := Callee.builtin Builtin.len, args := #[Operand.tmp 31], argTypes := #[22] }  [(13, 'false')]
            intro l hl vs W hS hR hp
            obtain rfl : l = [(0, 14), (1, 15), (2, 16), (3, 17), (4, 18), (5, 19), (6, 20), (7, 21), (8, 22), (9, 23), (10, 24), (11, 25), (12, 26), (13, 27), (14, 28), (15, 29), (16, 30), (17, 31)] := hl.symm.trans (by kernel_rfl)
            have p13 : vs 13 = _ := hp 13 (by decide) (by decide)
            have p17 : vs 17 = _ := hp 17 (by decide) (by decide)
            clear hp hl
            refine opgoal (_) (some 32) rfl rfl fun K hK => ?_
            refine Runs.mk ?_
            simp only [putAll]
            go_simp
            refine hK _ _ ?_ hS ((fun w => Below.refl _ w) W) _ rfl rfl
            first | rfl | go_simp | simp
          · -- 19: Op.binOp BinOp.geq 3 (Operand.tmp 32) (Operand.const (Value.int IntKind.i64 256)) 3  [(13, 'false')]
            intro l hl vs W hS hR hp
            obtain rfl : l = [(0, 14), (1, 15), (2, 16), (3, 17), (4, 18), (5, 19), (6, 20), (7, 21), (8, 22), (9, 23), (10, 24), (11, 25), (12, 26), (13, 27), (14, 28), (15, 29), (16, 30), (17, 31), (18, 32)] := hl.symm.trans (by kernel_rfl)
            have p13 : vs 13 = _ := hp 13 (by decide) (by decide)
            have p18 : vs 18 = _ := hp 18 (by decide) (by decide)
            clear hp hl
            refine opgoal (_) (some 33) rfl rfl fun K hK => ?_
            refine Runs.mk ?_
            simp only [putAll]
            go_simp
            refine hK _ _ ?_ hS ((fun w => Below.refl _ w) W) _ rfl rfl
            first | rfl | go_simp | simp
          · -- 20: Op.pick (Operand.tmp 27) (Operand.const (Value.bool true)) (Operand.tmp 33)
            intro l hl vs W hS hR hp
            obtain rfl : l = [(0, 14), (1, 15), (2, 16), (3, 17), (4, 18), (5, 19), (6, 20), (7, 21), (8, 22), (9, 23), (10, 24), (11, 25), (12, 26), (13, 27), (14, 28), (15, 29), (16, 30), (17, 31), (18, 32), (19, 33)] := hl.symm.trans (by kernel_rfl)
            have p13 : vs 13 = _ := hp 13 (by decide) (by decide)
            have p19 : vs 19 = _ := hp 19 (by decide) (by decide)
            clear hp hl
            refine opgoal (_) (some 34) rfl rfl fun K hK => ?_
            refine Runs.mk ?_
            simp only [putAll]
            go_simp
            refine hK _ _ ?_ hS ((fun w => Below.refl _ w) W) _ rfl rfl
            first | rfl | go_simp | simp
        · intro l hl vs W hS hR hp
          obtain rfl : l = [(0, 14), (1, 15), (2, 16), (3, 17), (4, 18), (5, 19), (6, 20), (7, 21), (8, 22), (9, 23), (10, 24), (11, 25), (12, 26), (13, 27), (14, 28), (15, 29), (16, 30), (17, 31), (18, 32), (19, 33), (20, 34)] := hl.symm.trans (by kernel_rfl)
          have p0 : vs 0 = _ := hp 0 (by decide) (by decide)
          have p1 : vs 1 = _ := hp 1 (by decide) (by decide)
          have p2 : vs 2 = _ := hp 2 (by decide) (by decide)
          have p3 : vs 3 = _ := hp 3 (by decide) (by decide)
          have p4 : vs 4 = _ := hp 4 (by decide) (by decide)
          have p5 : vs 5 = _ := hp 5 (by decide) (by decide)
          have p6 : vs 6 = _ := hp 6 (by decide) (by decide)
          have p7 : vs 7 = _ := hp 7 (by decide) (by decide)
          have p8 : vs 8 = _ := hp 8 (by decide) (by decide)
          have p9 : vs 9 = _ := hp 9 (by decide) (by decide)
          have p10 : vs 10 = _ := hp 10 (by decide) (by decide)
          have p11 : vs 11 = _ := hp 11 (by decide) (by decide)
          have p12 : vs 12 = _ := hp 12 (by decide) (by decide)
          have p13 : vs 13 = _ := hp 13 (by decide) (by decide)
          have p14 : vs 14 = _ := hp 14 (by decide) (by decide)
          have p15 : vs 15 = _ := hp 15 (by decide) (by decide)
          have p16 : vs 16 = _ := hp 16 (by decide) (by decide)
          have p17 : vs 17 = _ := hp 17 (by decide) (by decide)
          have p18 : vs 18 = _ := hp 18 (by decide) (by decide)
          have p19 : vs 19 = _ := hp 19 (by decide) (by decide)
          have p20 : vs 20 = _ := hp 20 (by decide) (by decide)
          clear hp hl
          simp only [putAll_mk, setAll, List.setIfInBounds_toArray, List.set_cons_succ, List.set_cons_zero, p0, p1, p2, p3, p4, p5, p6, p7, p8, p9, p10, p11, p12, p13, p14, p15, p16, p17, p18, p19, p20]
          have HS := Lib.hid hS
          clear hS hR hS0
          go_wp2
          go_roundw
          case rel => exact .inr ⟨by go_num, by go_num, by simpa using HREL.out _ HS.out⟩
          case measure => simp [intOf]
      | true =>
        have HWH := HWH0
        go_wp2_with fail
        rw [HW0.out, HXB.out]
        have hS0 : Below W.heap.size W W.drew := below_drewN 1 W
        refine wp_region_one (fun W' => Below W.heap.size W W') (fun u v => Below u.heap.size u v) (fun a i => match i with
            | 0 => (fun v _ => v = .pointer (some ⟨b, 0, none⟩))
            | 1 => (fun v _ => v = .bool false)
            | 2 => (fun v _ => v = .bool false)
            | 3 => (fun v _ => v = .pointer (some ⟨b, 0, none⟩))
            | 4 => (fun v _ => v = .pointer (some ⟨b, 0, none⟩))
            | 5 => (fun v _ => v = .pointer (some ⟨b, 0, none⟩))
            | 6 => (fun v _ => v = .pointer (some ⟨xb, 0, none⟩))
            | 7 => (fun v _ => v = .int .i64 px)
            | 8 => (fun v _ => v = .pointer (some ⟨xb, 1, none⟩))
            | 9 => (fun v _ => v = .int .i64 py)
            | 10 => (fun v _ => v = .bool true)
            | 11 => (fun v _ => v = .bool false)
            | 12 => (fun v _ => v = .bool false)
            | 13 => (fun v _ => v = .bool false)
            | 14 => (fun v _ => v = .pointer (some ⟨b, 0, none⟩))
            | 15 => (fun v _ => v = .pointer (some ⟨b, 0, none⟩))
            | 16 => (fun v _ => v = .pointer (some ⟨b, 2, none⟩))
            | 17 => (fun v _ => v = .slice VA k vc)
            | 18 => (fun v _ => v = .int .i64 (k : Int))
            | 19 => (fun v _ => v = .bool false)
            | 20 => (fun v _ => v = .bool false)
            | _ => (fun _ _ => True)) #[0, 1, 3, 7, 15, 31, 7, 71, 7, 263, 1023, 2047, 4095, 8191, 16383, 32767, 65535, 131071, 262143, 524287, 1048575] #[0, 1, 2, 4, 12, 20, 4, 68, 4, 260, 676, 1028, 2052, 4096, 8192, 24576, 40960, 73728, 139264, 270336, 532480] 2097151 (by kernel_rfl) 21 rfl (fun m hm => by subst hm; kernel_rfl) (by kernel_rfl) (fun w => Below.refl _ w) (fun u v w h1 h2 => below2 h1 h2) ?_ (hS0) ?_ ?_
        · intro i hi
          rcases (by omega : i = 0 ∨ i = 1 ∨ i = 2 ∨ i = 3 ∨ i = 4 ∨ i = 5 ∨ i = 6 ∨ i = 7 ∨ i = 8 ∨ i = 9 ∨ i = 10 ∨ i = 11 ∨ i = 12 ∨ i = 13 ∨ i = 14 ∨ i = 15 ∨ i = 16 ∨ i = 17 ∨ i = 18 ∨ i = 19 ∨ i = 20) with rfl | rfl | rfl | rfl | rfl | rfl | rfl | rfl | rfl | rfl | rfl | rfl | rfl | rfl | rfl | rfl | rfl | rfl | rfl | rfl | rfl
          · exact fun v w w' h hr => by exact h
          · exact fun v w w' h hr => by exact h
          · exact fun v w w' h hr => by exact h
          · exact fun v w w' h hr => by exact h
          · exact fun v w w' h hr => by exact h
          · exact fun v w w' h hr => by exact h
          · exact fun v w w' h hr => by exact h
          · exact fun v w w' h hr => by exact h
          · exact fun v w w' h hr => by exact h
          · exact fun v w w' h hr => by exact h
          · exact fun v w w' h hr => by exact h
          · exact fun v w w' h hr => by exact h
          · exact fun v w w' h hr => by exact h
          · exact fun v w w' h hr => by exact h
          · exact fun v w w' h hr => by exact h
          · exact fun v w w' h hr => by exact h
          · exact fun v w w' h hr => by exact h
          · exact fun v w w' h hr => by exact h
          · exact fun v w w' h hr => by exact h
          · exact fun v w w' h hr => by exact h
          · exact fun v w w' h hr => by exact h
        · intro i hi
          rcases (by omega : i = 0 ∨ i = 1 ∨ i = 2 ∨ i = 3 ∨ i = 4 ∨ i = 5 ∨ i = 6 ∨ i = 7 ∨ i = 8 ∨ i = 9 ∨ i = 10 ∨ i = 11 ∨ i = 12 ∨ i = 13 ∨ i = 14 ∨ i = 15 ∨ i = 16 ∨ i = 17 ∨ i = 18 ∨ i = 19 ∨ i = 20) with rfl | rfl | rfl | rfl | rfl | rfl | rfl | rfl | rfl | rfl | rfl | rfl | rfl | rfl | rfl | rfl | rfl | rfl | rfl | rfl | rfl
          · -- 0: Op.move (Operand.tmp 0)
            intro l hl vs W hS hR hp
            obtain rfl : l = [] := hl.symm.trans (by kernel_rfl)
            clear hp hl
            refine opgoal (_) (some 14) rfl rfl fun K hK => ?_
            refine Runs.mk ?_
            simp only [putAll]
            go_simp
            refine hK _ _ ?_ hS ((fun w => Below.refl _ w) W) _ rfl rfl
            first | rfl | go_simp | simp
          · -- 1: Op.binOp BinOp.eql 24 (Operand.tmp 14) (Operand.const (Value.pointer none)) 24
            intro l hl vs W hS hR hp
            obtain rfl : l = [(0, 14)] := hl.symm.trans (by kernel_rfl)
            have p0 : vs 0 = _ := hp 0 (by decide) (by decide)
            clear hp hl
            refine opgoal (_) (some 15) rfl rfl fun K hK => ?_
            refine Runs.mk ?_
            simp only [putAll]
            go_simp
            refine hK _ _ ?_ hS ((fun w => Below.refl _ w) W) _ rfl rfl
            first | rfl | go_simp | simp
          · -- 2: Op.move (Operand.tmp 15)
            intro l hl vs W hS hR hp
            obtain rfl : l = [(0, 14), (1, 15)] := hl.symm.trans (by kernel_rfl)
            have p1 : vs 1 = _ := hp 1 (by decide) (by decide)
            clear hp hl
            refine opgoal (_) (some 16) rfl rfl fun K hK => ?_
            refine Runs.mk ?_
            simp only [putAll]
            go_simp
            refine hK _ _ ?_ hS ((fun w => Below.refl _ w) W) _ rfl rfl
            first | rfl | go_simp | simp
          · -- 3: Op.move (Operand.tmp 0)  [(2, 'false')]
            intro l hl vs W hS hR hp
            obtain rfl : l = [(0, 14), (1, 15), (2, 16)] := hl.symm.trans (by kernel_rfl)
            have p2 : vs 2 = _ := hp 2 (by decide) (by decide)
            clear hp hl
            refine opgoal (_) (some 17) rfl rfl fun K hK => ?_
            refine Runs.mk ?_
            simp only [putAll]
            go_simp
            refine hK _ _ ?_ hS ((fun w => Below.refl _ w) W) _ rfl rfl
            first | rfl | go_simp | simp
          · -- 4: Op.nilCheck (Operand.tmp 17)  [(2, 'false')]
            intro l hl vs W hS hR hp
            obtain rfl : l = [(0, 14), (1, 15), (2, 16), (3, 17)] := hl.symm.trans (by kernel_rfl)
            have p2 : vs 2 = _ := hp 2 (by decide) (by decide)
            have p3 : vs 3 = _ := hp 3 (by decide) (by decide)
            clear hp hl
            refine opgoal (_) (some 18) rfl rfl fun K hK => ?_
            refine Runs.mk ?_
            simp only [putAll]
            go_simp
            refine hK _ _ ?_ hS ((fun w => Below.refl _ w) W) _ rfl rfl
            first | rfl | go_simp | simp
          · -- 5: Op.fieldAddr 106 (Operand.tmp 18) 0  [(2, 'false')]
            intro l hl vs W hS hR hp
            obtain rfl : l = [(0, 14), (1, 15), (2, 16), (3, 17), (4, 18)] := hl.symm.trans (by kernel_rfl)
            have p2 : vs 2 = _ := hp 2 (by decide) (by decide)
            have p4 : vs 4 = _ := hp 4 (by decide) (by decide)
            clear hp hl
            refine opgoal (_) (some 19) rfl rfl fun K hK => ?_
            refine Runs.mk ?_
            simp only [putAll]
            go_simp
            refine hK _ _ ?_ hS ((fun w => Below.refl _ w) W) _ rfl rfl
            first | rfl | go_simp | simp
          · -- 6: Op.fieldAddr 29 (Operand.tmp 7) 0  [(2, 'false')]
            intro l hl vs W hS hR hp
            obtain rfl : l = [(0, 14), (1, 15), (2, 16)] := hl.symm.trans (by kernel_rfl)
            have p2 : vs 2 = _ := hp 2 (by decide) (by decide)
            clear hp hl
            refine opgoal (_) (some 20) rfl rfl fun K hK => ?_
            refine Runs.mk ?_
            simp only [putAll]
            go_simp
            refine hK _ _ ?_ hS ((fun w => Below.refl _ w) W) _ rfl rfl
            first | rfl | go_simp | simp
          · -- 7: Op.load 3 (Operand.tmp 20)  [(2, 'false')]
            intro l hl vs W hS hR hp
            obtain rfl : l = [(0, 14), (1, 15), (2, 16), (6, 20)] := hl.symm.trans (by kernel_rfl)
            have p2 : vs 2 = _ := hp 2 (by decide) (by decide)
            have p6 : vs 6 = _ := hp 6 (by decide) (by decide)
            clear hp hl
            refine opgoal (_) (some 21) rfl rfl fun K hK => ?_
            obtain ⟨f0, f1, f2, f3⟩ := pk_cells ((hS.block _ (Array.getElem?_eq_some_iff.1 HX.out).1).trans HX.out)
            refine Runs.mk ?_
            simp only [putAll]
            go_simp
            refine hK _ _ ?_ hS ((fun w => Below.refl _ w) W) _ rfl rfl
            first | rfl | go_simp | simp
          · -- 8: Op.fieldAddr 29 (Operand.tmp 7) 1  [(2, 'false')]
            intro l hl vs W hS hR hp
            obtain rfl : l = [(0, 14), (1, 15), (2, 16)] := hl.symm.trans (by kernel_rfl)
            have p2 : vs 2 = _ := hp 2 (by decide) (by decide)
            clear hp hl
            refine opgoal (_) (some 22) rfl rfl fun K hK => ?_
            refine Runs.mk ?_
            simp only [putAll]
            go_simp
            refine hK _ _ ?_ hS ((fun w => Below.refl _ w) W) _ rfl rfl
            first | rfl | go_simp | simp
          · -- 9: Op.load 3 (Operand.tmp 22)  [(2, 'false')]
            intro l hl vs W hS hR hp
            obtain rfl : l = [(0, 14), (1, 15), (2, 16), (8, 22)] := hl.symm.trans (by kernel_rfl)
            have p2 : vs 2 = _ := hp 2 (by decide) (by decide)
            have p8 : vs 8 = _ := hp 8 (by decide) (by decide)
            clear hp hl
            refine opgoal (_) (some 23) rfl rfl fun K hK => ?_
            obtain ⟨f0, f1, f2, f3⟩ := pk_cells ((hS.block _ (Array.getElem?_eq_some_iff.1 HX.out).1).trans HX.out)
            refine Runs.mk ?_
            simp only [putAll]
            go_simp
            refine hK _ _ ?_ hS ((fun w => Below.refl _ w) W) _ rfl rfl
            first | rfl | go_simp | simp
          · -- 10: Op.call { callee := Callee.value (Operand.func 63), args := #[Operand.tmp 19, Operand.tmp 21, Operand.tmp 23], argTypes := #[104, 3, 3] }  [(2, 'false')]
            intro l hl vs W hS hR hp
            obtain rfl : l = [(0, 14), (1, 15), (2, 16), (3, 17), (4, 18), (5, 19), (6, 20), (7, 21), (8, 22), (9, 23)] := hl.symm.trans (by kernel_rfl)
            have p2 : vs 2 = _ := hp 2 (by decide) (by decide)
            have p5 : vs 5 = _ := hp 5 (by decide) (by decide)
            have p7 : vs 7 = _ := hp 7 (by decide) (by decide)
            have p9 : vs 9 = _ := hp 9 (by decide) (by decide)
            clear hp hl
            refine opgoal (_) (some 24) rfl rfl fun K hK => ?_
            refine Runs.mk ?_
            simp only [putAll]
            go_simp
            refine (HWH.out W (HN.out.below hS)).mono ?_
            rintro e w' ⟨rfl, hb⟩
            go_simp
            exact hK _ _ rfl (below2 hS hb) hb _ rfl rfl
          · -- 11: Op.unOp UnOp.not 4 (Operand.tmp 24)  [(2, 'false')]
            intro l hl vs W hS hR hp
            obtain rfl : l = [(0, 14), (1, 15), (2, 16), (3, 17), (4, 18), (5, 19), (6, 20), (7, 21), (8, 22), (9, 23), (10, 24)] := hl.symm.trans (by kernel_rfl)
            have p2 : vs 2 = _ := hp 2 (by decide) (by decide)
            have p10 : vs 10 = _ := hp 10 (by decide) (by decide)
            clear hp hl
            refine opgoal (_) (some 25) rfl rfl fun K hK => ?_
            refine Runs.mk ?_
            simp only [putAll]
            go_simp
            refine hK _ _ ?_ hS ((fun w => Below.refl _ w) W) _ rfl rfl
            first | rfl | go_simp | simp
          · -- 12: Op.pick (Operand.tmp 16) (Operand.const (Value.bool true)) (Operand.tmp 25)
            intro l hl vs W hS hR hp
            obtain rfl : l = [(0, 14), (1, 15), (2, 16), (3, 17), (4, 18), (5, 19), (6, 20), (7, 21), (8, 22), (9, 23), (10, 24), (11, 25)] := hl.symm.trans (by kernel_rfl)
            have p2 : vs 2 = _ := hp 2 (by decide) (by decide)
            have p11 : vs 11 = _ := hp 11 (by decide) (by decide)
            clear hp hl
            refine opgoal (_) (some 26) rfl rfl fun K hK => ?_
            refine Runs.mk ?_
            simp only [putAll]
            go_simp
            refine hK _ _ ?_ hS ((fun w => Below.refl _ w) W) _ rfl rfl
            first | rfl | go_simp | simp
          · -- 13: Op.move (Operand.tmp 26)
            intro l hl vs W hS hR hp
            obtain rfl : l = [(0, 14), (1, 15), (2, 16), (3, 17), (4, 18), (5, 19), (6, 20), (7, 21), (8, 22), (9, 23), (10, 24), (11, 25), (12, 26)] := hl.symm.trans (by kernel_rfl)
            have p12 : vs 12 = _ := hp 12 (by decide) (by decide)
            clear hp hl
            refine opgoal (_) (some 27) rfl rfl fun K hK => ?_
            refine Runs.mk ?_
            simp only [putAll]
            go_simp
            refine hK _ _ ?_ hS ((fun w => Below.refl _ w) W) _ rfl rfl
            first | rfl | go_simp | simp
          · -- 14: Op.move (Operand.tmp 0)  [(13, 'false')]
            intro l hl vs W hS hR hp
            obtain rfl : l = [(0, 14), (1, 15), (2, 16), (3, 17), (4, 18), (5, 19), (6, 20), (7, 21), (8, 22), (9, 23), (10, 24), (11, 25), (12, 26), (13, 27)] := hl.symm.trans (by kernel_rfl)
            have p13 : vs 13 = _ := hp 13 (by decide) (by decide)
            clear hp hl
            refine opgoal (_) (some 28) rfl rfl fun K hK => ?_
            refine Runs.mk ?_
            simp only [putAll]
            go_simp
            refine hK _ _ ?_ hS ((fun w => Below.refl _ w) W) _ rfl rfl
            first | rfl | go_simp | simp
          · -- 15: Op.nilCheck (Operand.tmp 28)  [(13, 'false')]
            intro l hl vs W hS hR hp
            obtain rfl : l = [(0, 14), (1, 15), (2, 16), (3, 17), (4, 18), (5, 19), (6, 20), (7, 21), (8, 22), (9, 23), (10, 24), (11, 25), (12, 26), (13, 27), (14, 28)] := hl.symm.trans (by kernel_rfl)
            have p13 : vs 13 = _ := hp 13 (by decide) (by decide)
            have p14 : vs 14 = _ := hp 14 (by decide) (by decide)
            clear hp hl
            refine opgoal (_) (some 29) rfl rfl fun K hK => ?_
            refine Runs.mk ?_
            simp only [putAll]
            go_simp
            refine hK _ _ ?_ hS ((fun w => Below.refl _ w) W) _ rfl rfl
            first | rfl | go_simp | simp
          · -- 16: Op.fieldAddr 106 (Operand.tmp 29) 1  [(13, 'false')]
            intro l hl vs W hS hR hp
            obtain rfl : l = [(0, 14), (1, 15), (2, 16), (3, 17), (4, 18), (5, 19), (6, 20), (7, 21), (8, 22), (9, 23), (10, 24), (11, 25), (12, 26), (13, 27), (14, 28), (15, 29)] := hl.symm.trans (by kernel_rfl)
            have p13 : vs 13 = _ := hp 13 (by decide) (by decide)
            have p15 : vs 15 = _ := hp 15 (by decide) (by decide)
            clear hp hl
            refine opgoal (_) (some 30) rfl rfl fun K hK => ?_
            refine Runs.mk ?_
            simp only [putAll]
            go_simp
            refine hK _ _ ?_ hS ((fun w => Below.refl _ w) W) _ rfl rfl
            first | rfl | go_simp | simp
          · -- 17: Op.load 22 (Operand.tmp 30)  [(13, 'false')]
            intro l hl vs W hS hR hp
            obtain rfl : l = [(0, 14), (1, 15), (2, 16), (3, 17), (4, 18), (5, 19), (6, 20), (7, 21), (8, 22), (9, 23), (10, 24), (11, 25), (12, 26), (13, 27), (14, 28), (15, 29), (16, 30)] := hl.symm.trans (by kernel_rfl)
            have p13 : vs 13 = _ := hp 13 (by decide) (by decide)
            have p16 : vs 16 = _ := hp 16 (by decide) (by decide)
            clear hp hl
            refine opgoal (_) (some 31) rfl rfl fun K hK => ?_
            have c2 := (HN.out.below hS).cell.2.2.1
            rw [hVV.out] at c2
            refine Runs.mk ?_
            simp only [putAll]
            go_simp
            refine hK _ _ ?_ hS ((fun w => Below.refl _ w) W) _ rfl rfl
            first | rfl | go_simp | simp
          · -- 18: Op.call { callee := Callee.builtin Builtin.len, args := #[Operand.tmp 31], argTypes := #[22] }  [(13, 'false')]
            intro l hl vs W hS hR hp
            obtain rfl : l = [(0, 14), (1, 15), (2, 16), (3, 17), (4, 18), (5, 19), (6, 20), (7, 21), (8, 22), (9, 23), (10, 24), (11, 25), (12, 26), (13, 27), (14, 28), (15, 29), (16, 30), (17, 31)] := hl.symm.trans (by kernel_rfl)
            have p13 : vs 13 = _ := hp 13 (by decide) (by decide)
            have p17 : vs 17 = _ := hp 17 (by decide) (by decide)
            clear hp hl
            refine opgoal (_) (some 32) rfl rfl fun K hK => ?_
            refine Runs.mk ?_
            simp only [putAll]
            go_simp
            refine hK _ _ ?_ hS ((fun w => Below.refl _ w) W) _ rfl rfl
            first | rfl | go_simp | simp
          · -- 19: Op.binOp BinOp.geq 3 (Operand.tmp 32) (Operand.const (Value.int IntKind.i64 256)) 3  [(13, 'false')]
            intro l hl vs W hS hR hp
            obtain rfl : l = [(0, 14), (1, 15), (2, 16), (3, 17), (4, 18), (5, 19), (6, 20), (7, 21), (8, 22), (9, 23), (10, 24), (11, 25), (12, 26), (13, 27), (14, 28), (15, 29), (16, 30), (17, 31), (18, 32)] := hl.symm.trans (by kernel_rfl)
            have p13 : vs 13 = _ := hp 13 (by decide) (by decide)
            have p18 : vs 18 = _ := hp 18 (by decide) (by decide)
            clear hp hl
            refine opgoal (_) (some 33) rfl rfl fun K hK => ?_
            have hkk := hk256.out
            refine Runs.mk ?_
            simp only [putAll]
            go_simp
            refine hK _ _ ?_ hS ((fun w => Below.refl _ w) W) _ rfl rfl
            first | rfl | go_simp | simp
          · -- 20: Op.pick (Operand.tmp 27) (Operand.const (Value.bool true)) (Operand.tmp 33)
            intro l hl vs W hS hR hp
            obtain rfl : l = [(0, 14), (1, 15), (2, 16), (3, 17), (4, 18), (5, 19), (6, 20), (7, 21), (8, 22), (9, 23), (10, 24), (11, 25), (12, 26), (13, 27), (14, 28), (15, 29), (16, 30), (17, 31), (18, 32), (19, 33)] := hl.symm.trans (by kernel_rfl)
            have p13 : vs 13 = _ := hp 13 (by decide) (by decide)
            have p19 : vs 19 = _ := hp 19 (by decide) (by decide)
            clear hp hl
            refine opgoal (_) (some 34) rfl rfl fun K hK => ?_
            refine Runs.mk ?_
            simp only [putAll]
            go_simp
            refine hK _ _ ?_ hS ((fun w => Below.refl _ w) W) _ rfl rfl
            first | rfl | go_simp | simp
        · intro l hl vs W hS hR hp
          obtain rfl : l = [(0, 14), (1, 15), (2, 16), (3, 17), (4, 18), (5, 19), (6, 20), (7, 21), (8, 22), (9, 23), (10, 24), (11, 25), (12, 26), (13, 27), (14, 28), (15, 29), (16, 30), (17, 31), (18, 32), (19, 33), (20, 34)] := hl.symm.trans (by kernel_rfl)
          have p0 : vs 0 = _ := hp 0 (by decide) (by decide)
          have p1 : vs 1 = _ := hp 1 (by decide) (by decide)
          have p2 : vs 2 = _ := hp 2 (by decide) (by decide)
          have p3 : vs 3 = _ := hp 3 (by decide) (by decide)
          have p4 : vs 4 = _ := hp 4 (by decide) (by decide)
          have p5 : vs 5 = _ := hp 5 (by decide) (by decide)
          have p6 : vs 6 = _ := hp 6 (by decide) (by decide)
          have p7 : vs 7 = _ := hp 7 (by decide) (by decide)
          have p8 : vs 8 = _ := hp 8 (by decide) (by decide)
          have p9 : vs 9 = _ := hp 9 (by decide) (by decide)
          have p10 : vs 10 = _ := hp 10 (by decide) (by decide)
          have p11 : vs 11 = _ := hp 11 (by decide) (by decide)
          have p12 : vs 12 = _ := hp 12 (by decide) (by decide)
          have p13 : vs 13 = _ := hp 13 (by decide) (by decide)
          have p14 : vs 14 = _ := hp 14 (by decide) (by decide)
          have p15 : vs 15 = _ := hp 15 (by decide) (by decide)
          have p16 : vs 16 = _ := hp 16 (by decide) (by decide)
          have p17 : vs 17 = _ := hp 17 (by decide) (by decide)
          have p18 : vs 18 = _ := hp 18 (by decide) (by decide)
          have p19 : vs 19 = _ := hp 19 (by decide) (by decide)
          have p20 : vs 20 = _ := hp 20 (by decide) (by decide)
          clear hp hl
          simp only [putAll_mk, setAll, List.setIfInBounds_toArray, List.set_cons_succ, List.set_cons_zero, p0, p1, p2, p3, p4, p5, p6, p7, p8, p9, p10, p11, p12, p13, p14, p15, p16, p17, p18, p19, p20]
          have HS := Lib.hid hS
          clear hS hR hS0
          obtain ⟨W7, hW7⟩ : ∃ W7, W = W7 := ⟨_, rfl⟩
          rw [hW7] at HS ⊢
          clear hW7
          go_wp2_with fail
          have hS0 := HPS.out _ HS.out
          refine wp_region_done (fun d => PushN b mb nodes n f W7.heap.size xb VV L k px py ps pq (d 7) (d 10)) (fun u v => Keep (b :: VV.ownBlock.toList) u v) (fun k u v => (k = 7 → (fun u v => Keep VV.ownBlock.toList u v) u v) ∧ (k = 10 → (fun u v => Keep [b] u v) u v) ∧ (¬ k = 7 → ¬ k = 10 → (fun u v => Below u.heap.size u v) u v)) (fun a i => match i with
              | 0 => (fun v _ => v = .pointer (some ⟨b, 0, none⟩))
              | 1 => (fun v _ => v = .pointer (some ⟨b, 0, none⟩))
              | 2 => (fun v _ => v = .pointer (some ⟨b, 0, none⟩))
              | 3 => (fun v _ => v = .pointer (some ⟨b, 2, none⟩))
              | 4 => (fun v _ => v = .slice VA k vc)
              | 5 => (fun v _ => v = .agg #[.int .i64 px, .int .i64 py, .string ps, .bool pq])
              | 6 => (fun v W => ∃ j, v = .slice (some ⟨j, 0, none⟩) 1 1 ∧ j < W.heap.size ∧ W.heap[j]? = some (.cells #[.int .i64 px, .int .i64 py, .string ps, .bool pq] PT (0, 0)))
              | 7 => (fun v W => W.ownsRow (b + 1) PT 4 v (k + 1) (L ++ [.int .i64 px, .int .i64 py, .string ps, .bool pq]) ∧ (v.ownBlock = VV.ownBlock ∨ ∀ k, v.ownBlock = some k → W7.heap.size ≤ k))
              | 8 => (fun v _ => v = .pointer (some ⟨b, 0, none⟩))
              | 9 => (fun v _ => v = .pointer (some ⟨b, 2, none⟩))
              | 10 => (fun v W => True)
              | _ => (fun _ _ => True)) #[0, 0, 2, 6, 14, 0, 32, 126, 255, 511, 1023] #[0, 0, 2, 4, 8, 0, 32, 80, 1, 256, 640] 1855 (by kernel_rfl) 11 rfl (fun m hm => by subst hm; kernel_rfl) (by kernel_rfl) (fun w => Keep.refl _ w) (fun u v w h1 h2 => h1.trans h2) ?_ ?_ (hS0) ?_ ?_
          · intro k u v hk hr
            by_cases hs7 : k = 7
            · have h := hr.1 hs7; exact h.mono (by intro x hx; exact List.mem_cons_of_mem _ hx)
            by_cases hs10 : k = 10
            · have h := hr.2.1 hs10; exact h.mono (by simp)
            have h := hr.2.2 hs7 hs10; exact Keep.of_below h
          · intro i hi
            rcases (by omega : i = 0 ∨ i = 1 ∨ i = 2 ∨ i = 3 ∨ i = 4 ∨ i = 5 ∨ i = 6 ∨ i = 7 ∨ i = 8 ∨ i = 9 ∨ i = 10) with rfl | rfl | rfl | rfl | rfl | rfl | rfl | rfl | rfl | rfl | rfl
            · intro k hk y hy hyt v w w' h hr
              exact h
            · intro k hk y hy hyt v w w' h hr
              exact h
            · intro k hk y hy hyt v w w' h hr
              exact h
            · intro k hk y hy hyt v w w' h hr
              exact h
            · intro k hk y hy hyt v w w' h hr
              exact h
            · intro k hk y hy hyt v w w' h hr
              exact h
            · intro k hk y hy hyt v w w' h hr
              by_cases hs7 : k = 7
              · have hr0 := hr.1 hs7
                subst hs7
                exact absurd (hy.trans hyt) (ne_true_of_eq_false (by kernel_rfl))
              by_cases hs10 : k = 10
              · have hr0 := hr.2.1 hs10
                subst hs10
                exact absurd (hy.trans hyt) (ne_true_of_eq_false (by kernel_rfl))
              have hr := hr.2.2 hs7 hs10
              obtain ⟨j, h1, h2, h3⟩ := h; exact ⟨j, h1, Nat.lt_of_lt_of_le h2 hr.size, (hr.block j h2).trans h3⟩
            · intro k hk y hy hyt v w w' h hr
              by_cases hs7 : k = 7
              · have hr0 := hr.1 hs7
                subst hs7
                exact absurd (hy.trans hyt) (ne_true_of_eq_false (by kernel_rfl))
              by_cases hs10 : k = 10
              · have hr0 := hr.2.1 hs10
                subst hs10
                exact absurd (hy.trans hyt) (ne_true_of_eq_false (by kernel_rfl))
              have hr := hr.2.2 hs7 hs10
              exact ⟨own_kept h.1 hr, h.2⟩
            · intro k hk y hy hyt v w w' h hr
              exact h
            · intro k hk y hy hyt v w w' h hr
              exact h
            · intro k hk y hy hyt v w w' h hr
              by_cases hs7 : k = 7
              · have hr0 := hr.1 hs7
                subst hs7
                exact absurd (hy.trans hyt) (ne_true_of_eq_false (by kernel_rfl))
              by_cases hs10 : k = 10
              · have hr0 := hr.2.1 hs10
                subst hs10
                exact absurd (hy.trans hyt) (ne_true_of_eq_false (by kernel_rfl))
              have hr := hr.2.2 hs7 hs10
              exact trivial
          · intro i hi
            rcases (by omega : i = 0 ∨ i = 1 ∨ i = 2 ∨ i = 3 ∨ i = 4 ∨ i = 5 ∨ i = 6 ∨ i = 7 ∨ i = 8 ∨ i = 9 ∨ i = 10) with rfl | rfl | rfl | rfl | rfl | rfl | rfl | rfl | rfl | rfl | rfl
            · -- 0: Op.move (Operand.tmp 0)
              intro l hl vs W dn e1 e2 e3 hS hR hp
              have f7 : dn 7 = dn 7 := rfl
              have f10 : dn 10 = false := e3 10 (by kernel_rfl)
              replace hS : (PushN b mb nodes n f W7.heap.size xb VV L k px py ps pq (dn 7) (dn 10)) W := hS
              rw [f10] at hS
              have g7 : (dn 7 || ((0 : Nat) == 7)) = dn 7 := Bool.or_false _
              have g10 : (dn 10 || ((0 : Nat) == 10)) = false := by rw [f10]; rfl
              refine OpGoal.imp (S1 := PushN b mb nodes n f W7.heap.size xb VV L k px py ps pq (dn 7) false) (fun W' h => ?_) ?_
              · show (PushN b mb nodes n f W7.heap.size xb VV L k px py ps pq (dn 7 || ((0 : Nat) == 7)) (dn 10 || ((0 : Nat) == 10))) W'
                rw [g7, g10]
                exact h
              clear g7 g10 e1 e2 e3
              obtain rfl : l = [] := hl.symm.trans (by kernel_rfl)
              clear hp hl
              refine opgoal (_) (some 37) rfl rfl fun K hK => ?_
              refine Runs.mk ?_
              simp only [putAll]
              go_simp
              refine hK _ _ ?_ hS ⟨fun h => absurd h (by decide), fun h => absurd h (by decide), fun h7 h10 => ((fun w => Below.refl _ w) W)⟩ _ rfl rfl
              first | rfl | go_simp | simp
            · -- 1: Op.move (Operand.tmp 0)
              intro l hl vs W dn e1 e2 e3 hS hR hp
              have f7 : dn 7 = false := e3 7 (by kernel_rfl)
              have f10 : dn 10 = false := e3 10 (by kernel_rfl)
              replace hS : (PushN b mb nodes n f W7.heap.size xb VV L k px py ps pq (dn 7) (dn 10)) W := hS
              rw [f7, f10] at hS
              have g7 : (dn 7 || ((1 : Nat) == 7)) = false := by rw [f7]; rfl
              have g10 : (dn 10 || ((1 : Nat) == 10)) = false := by rw [f10]; rfl
              refine OpGoal.imp (S1 := PushN b mb nodes n f W7.heap.size xb VV L k px py ps pq false false) (fun W' h => ?_) ?_
              · show (PushN b mb nodes n f W7.heap.size xb VV L k px py ps pq (dn 7 || ((1 : Nat) == 7)) (dn 10 || ((1 : Nat) == 10))) W'
                rw [g7, g10]
                exact h
              clear g7 g10 e1 e2 e3
              obtain rfl : l = [] := hl.symm.trans (by kernel_rfl)
              clear hp hl
              refine opgoal (_) (some 38) rfl rfl fun K hK => ?_
              refine Runs.mk ?_
              simp only [putAll]
              go_simp
              refine hK _ _ ?_ hS ⟨fun h => absurd h (by decide), fun h => absurd h (by decide), fun h7 h10 => ((fun w => Below.refl _ w) W)⟩ _ rfl rfl
              first | rfl | go_simp | simp
            · -- 2: Op.nilCheck (Operand.tmp 38)
              intro l hl vs W dn e1 e2 e3 hS hR hp
              have f7 : dn 7 = false := e3 7 (by kernel_rfl)
              have f10 : dn 10 = false := e3 10 (by kernel_rfl)
              replace hS : (PushN b mb nodes n f W7.heap.size xb VV L k px py ps pq (dn 7) (dn 10)) W := hS
              rw [f7, f10] at hS
              have g7 : (dn 7 || ((2 : Nat) == 7)) = false := by rw [f7]; rfl
              have g10 : (dn 10 || ((2 : Nat) == 10)) = false := by rw [f10]; rfl
              refine OpGoal.imp (S1 := PushN b mb nodes n f W7.heap.size xb VV L k px py ps pq false false) (fun W' h => ?_) ?_
              · show (PushN b mb nodes n f W7.heap.size xb VV L k px py ps pq (dn 7 || ((2 : Nat) == 7)) (dn 10 || ((2 : Nat) == 10))) W'
                rw [g7, g10]
                exact h
              clear g7 g10 e1 e2 e3
              obtain rfl : l = [(1, 38)] := hl.symm.trans (by kernel_rfl)
              have p1 : vs 1 = _ := hp 1 (by decide) (by decide)
              clear hp hl
              refine opgoal (_) (some 39) rfl rfl fun K hK => ?_
              refine Runs.mk ?_
              simp only [putAll]
              go_simp
              refine hK _ _ ?_ hS ⟨fun h => absurd h (by decide), fun h => absurd h (by decide), fun h7 h10 => ((fun w => Below.refl _ w) W)⟩ _ rfl rfl
              first | rfl | go_simp | simp
            · -- 3: Op.fieldAddr 106 (Operand.tmp 39) 1
              intro l hl vs W dn e1 e2 e3 hS hR hp
              have f7 : dn 7 = false := e3 7 (by kernel_rfl)
              have f10 : dn 10 = false := e3 10 (by kernel_rfl)
              replace hS : (PushN b mb nodes n f W7.heap.size xb VV L k px py ps pq (dn 7) (dn 10)) W := hS
              rw [f7, f10] at hS
              have g7 : (dn 7 || ((3 : Nat) == 7)) = false := by rw [f7]; rfl
              have g10 : (dn 10 || ((3 : Nat) == 10)) = false := by rw [f10]; rfl
              refine OpGoal.imp (S1 := PushN b mb nodes n f W7.heap.size xb VV L k px py ps pq false false) (fun W' h => ?_) ?_
              · show (PushN b mb nodes n f W7.heap.size xb VV L k px py ps pq (dn 7 || ((3 : Nat) == 7)) (dn 10 || ((3 : Nat) == 10))) W'
                rw [g7, g10]
                exact h
              clear g7 g10 e1 e2 e3
              obtain rfl : l = [(1, 38), (2, 39)] := hl.symm.trans (by kernel_rfl)
              have p2 : vs 2 = _ := hp 2 (by decide) (by decide)
              clear hp hl
              refine opgoal (_) (some 40) rfl rfl fun K hK => ?_
              refine Runs.mk ?_
              simp only [putAll]
              go_simp
              refine hK _ _ ?_ hS ⟨fun h => absurd h (by decide), fun h => absurd h (by decide), fun h7 h10 => ((fun w => Below.refl _ w) W)⟩ _ rfl rfl
              first | rfl | go_simp | simp
            · -- 4: Op.load 22 (Operand.tmp 40)
              intro l hl vs W dn e1 e2 e3 hS hR hp
              have f7 : dn 7 = false := e3 7 (by kernel_rfl)
              have f10 : dn 10 = false := e3 10 (by kernel_rfl)
              replace hS : (PushN b mb nodes n f W7.heap.size xb VV L k px py ps pq (dn 7) (dn 10)) W := hS
              rw [f7, f10] at hS
              have g7 : (dn 7 || ((4 : Nat) == 7)) = false := by rw [f7]; rfl
              have g10 : (dn 10 || ((4 : Nat) == 10)) = false := by rw [f10]; rfl
              refine OpGoal.imp (S1 := PushN b mb nodes n f W7.heap.size xb VV L k px py ps pq false false) (fun W' h => ?_) ?_
              · show (PushN b mb nodes n f W7.heap.size xb VV L k px py ps pq (dn 7 || ((4 : Nat) == 7)) (dn 10 || ((4 : Nat) == 10))) W'
                rw [g7, g10]
                exact h
              clear g7 g10 e1 e2 e3
              obtain rfl : l = [(1, 38), (2, 39), (3, 40)] := hl.symm.trans (by kernel_rfl)
              have p3 : vs 3 = _ := hp 3 (by decide) (by decide)
              clear hp hl
              refine opgoal (_) (some 41) rfl rfl fun K hK => ?_
              have hc1 : W.cell? ⟨b, 2, none⟩ = some VV := (hS.blk rfl).2
              rw [hVV.out] at hc1
              refine Runs.mk ?_
              simp only [putAll]
              go_simp
              refine hK _ _ ?_ hS ⟨fun h => absurd h (by decide), fun h => absurd h (by decide), fun h7 h10 => ((fun w => Below.refl _ w) W)⟩ _ rfl rfl
              first | rfl | go_simp | simp
            · -- 5: Op.load 29 (Operand.tmp 7)
              intro l hl vs W dn e1 e2 e3 hS hR hp
              have f7 : dn 7 = false := e3 7 (by kernel_rfl)
              have f10 : dn 10 = false := e3 10 (by kernel_rfl)
              replace hS : (PushN b mb nodes n f W7.heap.size xb VV L k px py ps pq (dn 7) (dn 10)) W := hS
              rw [f7, f10] at hS
              have g7 : (dn 7 || ((5 : Nat) == 7)) = false := by rw [f7]; rfl
              have g10 : (dn 10 || ((5 : Nat) == 10)) = false := by rw [f10]; rfl
              refine OpGoal.imp (S1 := PushN b mb nodes n f W7.heap.size xb VV L k px py ps pq false false) (fun W' h => ?_) ?_
              · show (PushN b mb nodes n f W7.heap.size xb VV L k px py ps pq (dn 7 || ((5 : Nat) == 7)) (dn 10 || ((5 : Nat) == 10))) W'
                rw [g7, g10]
                exact h
              clear g7 g10 e1 e2 e3
              obtain rfl : l = [] := hl.symm.trans (by kernel_rfl)
              clear hp hl
              refine opgoal (_) (some 42) rfl rfl fun K hK => ?_
              obtain ⟨c0, c1, c2, c3⟩ := pk_cells hS.ent
              refine Runs.mk ?_
              simp only [putAll]
              go_simp
              refine hK _ _ ?_ hS ⟨fun h => absurd h (by decide), fun h => absurd h (by decide), fun h7 h10 => ((fun w => Below.refl _ w) W)⟩ _ rfl rfl
              first | rfl | go_simp | simp
            · -- 6: Op.buildSlice 22 1 #[(0, Operand.tmp 42)]
              intro l hl vs W dn e1 e2 e3 hS hR hp
              have f7 : dn 7 = false := e3 7 (by kernel_rfl)
              have f10 : dn 10 = false := e3 10 (by kernel_rfl)
              replace hS : (PushN b mb nodes n f W7.heap.size xb VV L k px py ps pq (dn 7) (dn 10)) W := hS
              rw [f7, f10] at hS
              have g7 : (dn 7 || ((6 : Nat) == 7)) = false := by rw [f7]; rfl
              have g10 : (dn 10 || ((6 : Nat) == 10)) = false := by rw [f10]; rfl
              refine OpGoal.imp (S1 := PushN b mb nodes n f W7.heap.size xb VV L k px py ps pq false false) (fun W' h => ?_) ?_
              · show (PushN b mb nodes n f W7.heap.size xb VV L k px py ps pq (dn 7 || ((6 : Nat) == 7)) (dn 10 || ((6 : Nat) == 10))) W'
                rw [g7, g10]
                exact h
              clear g7 g10 e1 e2 e3
              obtain rfl : l = [(5, 42)] := hl.symm.trans (by kernel_rfl)
              have p5 : vs 5 = _ := hp 5 (by decide) (by decide)
              clear hp hl
              refine opgoal (_) (some 43) rfl rfl fun K hK => ?_
              refine Runs.mk ?_
              simp only [putAll]
              go_simp
              have hb := below_alloc W (.cells #[.int .i64 px, .int .i64 py, .string ps, .bool pq] PT)
              exact hK _ _ ⟨W.heap.size, rfl, by simp, heap_alloc_new _ _⟩ (hS.below hb) ⟨(fun h => absurd h (by decide)), (fun h => absurd h (by decide)), fun h7 h10 => hb⟩ _ rfl rfl
            · -- 7: Op.call { callee := Callee.builtin Builtin.append, args := #[Operand.tmp 41, Operand.tmp 43], argTypes := #[22, 22] }
              intro l hl vs W dn e1 e2 e3 hS hR hp
              have f7 : dn 7 = false := e1
              have f10 : dn 10 = false := e3 10 (by kernel_rfl)
              replace hS : (PushN b mb nodes n f W7.heap.size xb VV L k px py ps pq (dn 7) (dn 10)) W := hS
              rw [f7, f10] at hS
              have g7 : (dn 7 || ((7 : Nat) == 7)) = true := by rw [f7]; rfl
              have g10 : (dn 10 || ((7 : Nat) == 10)) = false := by rw [f10]; rfl
              refine OpGoal.imp (S1 := PushN b mb nodes n f W7.heap.size xb VV L k px py ps pq true false) (fun W' h => ?_) ?_
              · show (PushN b mb nodes n f W7.heap.size xb VV L k px py ps pq (dn 7 || ((7 : Nat) == 7)) (dn 10 || ((7 : Nat) == 10))) W'
                rw [g7, g10]
                exact h
              clear g7 g10 e1 e2 e3
              obtain rfl : l = [(1, 38), (2, 39), (3, 40), (4, 41), (5, 42), (6, 43)] := hl.symm.trans (by kernel_rfl)
              have p4 : vs 4 = _ := hp 4 (by decide) (by decide)
              have p6 : (fun v W => ∃ j, v = .slice (some ⟨j, 0, none⟩) 1 1 ∧ j < W.heap.size ∧ W.heap[j]? = some (.cells #[.int .i64 px, .int .i64 py, .string ps, .bool pq] PT (0, 0))) (vs 6) W := hp 6 (by decide) (by decide)
              dsimp only at p6
              clear hp hl
              obtain ⟨j, q6, l6, b6⟩ := p6
              refine opgoal ({ dst := some 44, op := Op.call { callee := Callee.builtin Builtin.append, args := #[Operand.tmp 41, Operand.tmp 43], argTypes := #[22, 22] }, type := 22, pos := "net.go:70", after := #[{ on := 4, ground := Ground.data }, { on := 6, ground := Ground.data }], guard := none }) (some 44) rfl rfl fun K hK => ?_
              refine runs_append_src W (wanted_none rfl) (.tmp 41) (.tmp 43) (b + 1) 22 PT (.agg #[.int .i64 0, .int .i64 0, .string ⟨#[]⟩, .bool false]) 4 40 rfl (by kernel_rfl) (by kernel_rfl) rfl (by decide) (by decide) VV k L (by simp [putAll, Act.put, Act.eval, p4, hVV.out]) (hS.own rfl) (some ⟨j, 0, none⟩) 1 1 (by simp [putAll, Act.put, Act.eval, q6]) (fun h => by cases h) [.int .i64 px, .int .i64 py, .string ps, .bool pq] rfl (lies_block b6) (by simp [Value.oneCell']) (by have := hk256.out; omega) (by have := hS.szw; have := hS.sb; omega) ?_
              intro v' w' h1 h2 h3
              have hkk : Keep VV.ownBlock.toList W w' := keep_grown h2 _ (fun j hj _ => by simp [hj])
              exact hK _ _ ⟨h1, h3.elim (fun h => .inl h) (fun h => .inr fun k hk => (by rw [h] at hk; cases hk; exact hS.szw))⟩ (hS.app hkk) ⟨(fun _ => hkk), (fun h => absurd h (by decide)), fun h7 h10 => absurd rfl h7⟩ _ put_dfs (put_slot (by simp))
            · -- 8: Op.nilCheck (Operand.tmp 37)
              intro l hl vs W dn e1 e2 e3 hS hR hp
              have f7 : dn 7 = true := e2 7 (by kernel_rfl)
              have f10 : dn 10 = false := e3 10 (by kernel_rfl)
              replace hS : (PushN b mb nodes n f W7.heap.size xb VV L k px py ps pq (dn 7) (dn 10)) W := hS
              rw [f7, f10] at hS
              have g7 : (dn 7 || ((8 : Nat) == 7)) = true := by rw [f7]; rfl
              have g10 : (dn 10 || ((8 : Nat) == 10)) = false := by rw [f10]; rfl
              refine OpGoal.imp (S1 := PushN b mb nodes n f W7.heap.size xb VV L k px py ps pq true false) (fun W' h => ?_) ?_
              · show (PushN b mb nodes n f W7.heap.size xb VV L k px py ps pq (dn 7 || ((8 : Nat) == 7)) (dn 10 || ((8 : Nat) == 10))) W'
                rw [g7, g10]
                exact h
              clear g7 g10 e1 e2 e3
              obtain rfl : l = [(0, 37), (1, 38), (2, 39), (3, 40), (4, 41), (5, 42), (6, 43), (7, 44)] := hl.symm.trans (by kernel_rfl)
              have p0 : vs 0 = _ := hp 0 (by decide) (by decide)
              clear hp hl
              refine opgoal (_) (some 45) rfl rfl fun K hK => ?_
              refine Runs.mk ?_
              simp only [putAll]
              go_simp
              refine hK _ _ ?_ hS ⟨fun h => absurd h (by decide), fun h => absurd h (by decide), fun h7 h10 => ((fun w => Below.refl _ w) W)⟩ _ rfl rfl
              first | rfl | go_simp | simp
            · -- 9: Op.fieldAddr 106 (Operand.tmp 45) 1
              intro l hl vs W dn e1 e2 e3 hS hR hp
              have f7 : dn 7 = true := e2 7 (by kernel_rfl)
              have f10 : dn 10 = false := e3 10 (by kernel_rfl)
              replace hS : (PushN b mb nodes n f W7.heap.size xb VV L k px py ps pq (dn 7) (dn 10)) W := hS
              rw [f7, f10] at hS
              have g7 : (dn 7 || ((9 : Nat) == 7)) = true := by rw [f7]; rfl
              have g10 : (dn 10 || ((9 : Nat) == 10)) = false := by rw [f10]; rfl
              refine OpGoal.imp (S1 := PushN b mb nodes n f W7.heap.size xb VV L k px py ps pq true false) (fun W' h => ?_) ?_
              · show (PushN b mb nodes n f W7.heap.size xb VV L k px py ps pq (dn 7 || ((9 : Nat) == 7)) (dn 10 || ((9 : Nat) == 10))) W'
                rw [g7, g10]
                exact h
              clear g7 g10 e1 e2 e3
              obtain rfl : l = [(0, 37), (1, 38), (2, 39), (3, 40), (4, 41), (5, 42), (6, 43), (7, 44), (8, 45)] := hl.symm.trans (by kernel_rfl)
              have p8 : vs 8 = _ := hp 8 (by decide) (by decide)
              clear hp hl
              refine opgoal (_) (some 46) rfl rfl fun K hK => ?_
              refine Runs.mk ?_
              simp only [putAll]
              go_simp
              refine hK _ _ ?_ hS ⟨fun h => absurd h (by decide), fun h => absurd h (by decide), fun h7 h10 => ((fun w => Below.refl _ w) W)⟩ _ rfl rfl
              first | rfl | go_simp | simp
            · -- 10: Op.store 22 (Operand.tmp 46) (Operand.tmp 44)
              intro l hl vs W dn e1 e2 e3 hS hR hp
              have f7 : dn 7 = true := e2 7 (by kernel_rfl)
              have f10 : dn 10 = false := e1
              replace hS : (PushN b mb nodes n f W7.heap.size xb VV L k px py ps pq (dn 7) (dn 10)) W := hS
              rw [f7, f10] at hS
              have g7 : (dn 7 || ((10 : Nat) == 7)) = true := by rw [f7]; rfl
              have g10 : (dn 10 || ((10 : Nat) == 10)) = true := by rw [f10]; rfl
              refine OpGoal.imp (S1 := PushN b mb nodes n f W7.heap.size xb VV L k px py ps pq true true) (fun W' h => ?_) ?_
              · show (PushN b mb nodes n f W7.heap.size xb VV L k px py ps pq (dn 7 || ((10 : Nat) == 7)) (dn 10 || ((10 : Nat) == 10))) W'
                rw [g7, g10]
                exact h
              clear g7 g10 e1 e2 e3
              obtain rfl : l = [(0, 37), (1, 38), (2, 39), (3, 40), (4, 41), (5, 42), (6, 43), (7, 44), (8, 45), (9, 46)] := hl.symm.trans (by kernel_rfl)
              have p7 : (fun v W => W.ownsRow (b + 1) PT 4 v (k + 1) (L ++ [.int .i64 px, .int .i64 py, .string ps, .bool pq]) ∧ (v.ownBlock = VV.ownBlock ∨ ∀ k, v.ownBlock = some k → W7.heap.size ≤ k)) (vs 7) W := hp 7 (by decide) (by decide)
              dsimp only at p7
              have p9 : vs 9 = _ := hp 9 (by decide) (by decide)
              clear hp hl
              obtain ⟨o7, r7⟩ := p7
              refine opgoal (_) (none) rfl rfl fun K hK => ?_
              obtain ⟨A', c', q7⟩ := own_form4 o7
              rw [q7] at o7 r7
              have hc1 : W.cell? ⟨b, 2, none⟩ = some VV := (hS.blk rfl).2
              have hf1 : W.frozen? ⟨b, 2, none⟩ = false := frozen_of_row W _ _ _ _ (hS.blk rfl).1
              refine Runs.mk ?_
              simp only [putAll]
              go_simp
              exact hK undef _ trivial (hS.fin o7 r7) ⟨(fun h => absurd h (by decide)), (fun _ => (Keep.refl _ _).setCell (p := ⟨b, 2, none⟩) (.inl (by simp)) _), fun h7 h10 => absurd rfl h10⟩ _ rfl rfl
          · intro l hl vs W dn hd hS hR hp
            replace hS : (PushN b mb nodes n f W7.heap.size xb VV L k px py ps pq (dn 7) (dn 10)) W := hS
            rw [hd 7 (by decide), hd 10 (by decide)] at hS
            obtain rfl : l = [(0, 37), (1, 38), (2, 39), (3, 40), (4, 41), (5, 42), (6, 43), (7, 44), (8, 45), (9, 46)] := hl.symm.trans (by kernel_rfl)
            have p0 : vs 0 = _ := hp 0 (by decide) (by decide)
            have p1 : vs 1 = _ := hp 1 (by decide) (by decide)
            have p2 : vs 2 = _ := hp 2 (by decide) (by decide)
            have p3 : vs 3 = _ := hp 3 (by decide) (by decide)
            have p4 : vs 4 = _ := hp 4 (by decide) (by decide)
            have p5 : vs 5 = _ := hp 5 (by decide) (by decide)
            have p8 : vs 8 = _ := hp 8 (by decide) (by decide)
            have p9 : vs 9 = _ := hp 9 (by decide) (by decide)
            have p10 : (fun v W => True) (vs 10) W := hp 10 (by decide) (by decide)
            dsimp only at p10
            clear hp hl
            simp only [putAll_mk, setAll, List.setIfInBounds_toArray, List.set_cons_succ, List.set_cons_zero, p0, p1, p2, p3, p4, p5, p8, p9]
            have HS7 := Lib.hid hS
            have HR7 := Lib.hid hR
            clear hS hR p10
            go_wp2
            go_roundw
            case rel => exact .inr ⟨by first | rfl | go_num, by first | rfl | go_num, HRL.out _ _ HS.out HS7.out HR7.out⟩
            case measure => simp [intOf]
    · have HF := Lib.hid hfin
      clear hfin
      cases wq
      all_goals
        go_wp2
        go_ret
        exact ⟨rfl, by simpa using HF.out⟩
end Go.Proofs.Ytbdcgfdchkbcnaa.Ne
