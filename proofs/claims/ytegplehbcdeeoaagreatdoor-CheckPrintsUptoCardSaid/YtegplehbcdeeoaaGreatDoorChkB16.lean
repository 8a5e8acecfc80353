/- The checker's small walks. -/
import Derived.Test.YtegplehbcdeeoaaGreatDoorChkB14
import Derived.Deep.RegionLaw
import Derived.Test.YtegplehbcdeeoaaGreatDoorChkB15
import Derived.Deep.DeepMust
import Derived.BigRegion
import Derived.StillTailTactics
import Derived.BigQuiet
namespace Go.Proofs.YtegplehbcdeeoaaGreatDoor
open Go.RowKit Go.Maps

namespace Ck
open Pk Pw
section
variable {W : World} {A : Adr} {G : Gh} {s : St} {N : Nat}
def dataN (n : Nat) : Nat := 98 + (n + 4095) / 4096 + n / 64
def inodesN (n : Nat) : Nat := 98 + (n + 4095) / 4096
def countN (n : Nat) : Nat := n / 64 * 8
def isDataP (n i : Nat) : Bool := decide (dataN n ≤ i) && decide (i < n)
theorem chk_cells (h : Sim N W A G s) : W.cell? ⟨A.c, 0, none⟩ = some (.slice (some ⟨A.img, 0, none⟩) (512 * A.n) A.cap) ∧ W.cell? ⟨A.c, 1, none⟩ = some (.int .i64 A.n) ∧ W.cell? ⟨A.c, 2, none⟩ = some (.int .i64 98) ∧ W.cell? ⟨A.c, 3, none⟩ = some (.int .i64 (inodesN A.n : Nat)) ∧ W.cell? ⟨A.c, 4, none⟩ = some (.int .i64 (dataN A.n : Nat)) ∧ W.cell? ⟨A.c, 5, none⟩ = some (.int .i64 (countN A.n : Nat)) ∧ W.cell? ⟨A.c, 6, none⟩ = some G.found := by
  have b := h.blk (by decide)
  exact ⟨b.cell 0, b.cell 1, b.cell 2, b.cell 3, b.cell 4, b.cell 5, b.cell 6⟩
theorem chk_maps (h : Sim N W A G s) : W.cell? ⟨A.c, 7, none⟩ = some (.map (some A.nodes)) ∧ W.cell? ⟨A.c, 8, none⟩ = some (.map (some A.had)) ∧ W.cell? ⟨A.c, 9, none⟩ = some (.map (some A.blocks)) ∧ W.cell? ⟨A.c, 10, none⟩ = some (.map (some A.cells)) ∧ W.cell? ⟨A.c, 11, none⟩ = some (.map (some A.depth)) ∧ W.cell? ⟨A.c, 12, none⟩ = some (.map (some A.seen)) ∧ W.cell? ⟨A.c, 13, none⟩ = some (.map (some A.names)) := by
  have b := h.blk (by decide)
  exact ⟨b.cell 7, b.cell 8, b.cell 9, b.cell 10, b.cell 11, b.cell 12, b.cell 13⟩
set_option maxRecDepth 100000 in
theorem isData_any (h : Sim N W A G s) (i : Nat) : Calls Tryz.prog 58 #[.pointer (some ⟨A.c, 0, none⟩), .int .i64 i] W fun e w' => e = .returned (.bool (isDataP A.n i)) ∧ W = w' := by
  obtain ⟨q0, q1, q2, q3, q4, q5, q6⟩ := chk_cells h
  unfold isDataP
  generalize dataN A.n = d at *
  clear h q0 q2 q3 q5 q6
  by_cases c : d ≤ i
  · have c1 : (d : Int) ≤ i := by omega
    go_enter Tryz.func58, Tryz.ntmps58
    go_wp2_with fail
    go_ret
    exact ⟨by simp [c], rfl⟩
  · have c1 : ¬ (d : Int) ≤ i := by omega
    go_enter Tryz.func58, Tryz.ntmps58
    go_wp2_with fail
    go_ret
    exact ⟨by simp, rfl⟩
set_option maxRecDepth 100000 in
theorem block_at (h : Sim N W A G s) (i : Nat) (hi : i < A.n) : Calls Tryz.prog 109 #[.pointer (some ⟨A.c, 0, none⟩), .int .i64 i] W fun e w' => (∃ cap, e = .returned (.slice (some ⟨A.img, 512 * i, none⟩) 512 cap) ∧ 512 ≤ cap ∧ cap ≤ 9223372036854775807) ∧ W = w' := by
  obtain ⟨q0, q1, q2, q3, q4, q5, q6⟩ := chk_cells h
  have hc := h.cap
  have hn := h.n2
  have p1 : (0 : Int) ≤ (i : Int) * 512 := by omega
  have p2 : (i : Int) * 512 ≤ ((i : Int) + 1) * 512 := by omega
  have p3 : ((i : Int) + 1) * 512 ≤ (A.cap : Int) := by omega
  have p4 : ((i : Int) * 512).toNat = 512 * i := by omega
  have p5 : (((i : Int) + 1) * 512).toNat = 512 * i + 512 := by omega
  have p6 : ¬ A.cap = 512 * i := by omega
  clear h q1 q2 q3 q4 q5 q6
  go_enter Tryz.func109, Tryz.ntmps109
  go_wp2_with fail
  go_ret
  exact ⟨⟨_, rfl, by omega, by omega⟩, rfl⟩
set_option maxRecDepth 100000 in
theorem bitmap_at (h : Sim N W A G s) : Calls Tryz.prog 57 #[.pointer (some ⟨A.c, 0, none⟩)] W fun e w' => (∃ cap, e = .returned (.slice (some ⟨A.img, 50176, none⟩) (512 * ((A.n + 4095) / 4096)) cap)) ∧ Below W.heap.size W w' := by
  obtain ⟨q0, q1, q2, q3, q4, q5, q6⟩ := chk_cells h
  have hc := h.cap
  have hn := h.n2
  have hn1 := h.n1
  have p3 : (inodesN A.n : Int) * 512 ≤ (A.cap : Int) := by unfold inodesN; omega
  have p4 : ((inodesN A.n : Int) * 512).toNat = 50176 + 512 * ((A.n + 4095) / 4096) := by unfold inodesN; omega
  have p5 : (50176 : Int) ≤ (inodesN A.n : Int) * 512 := by unfold inodesN; omega
  have p6 : ¬ A.cap = 50176 := by omega
  clear h q1 q4 q5 q6
  generalize inodesN A.n = nn at *
  go_enter Tryz.func57, Tryz.ntmps57
  go_wp2_with fail
  go_region
  go_wp2_with fail
  go_ret
  exact ⟨⟨_, rfl⟩, (Below.refl _ _).drew⟩
/-- The bitmap's bytes. -/
def mapB (n : Nat) (l : B) : B := sub l 50176 (512 * ((n + 4095) / 4096))
theorem mapB_len {n : Nat} {l : B} (h : l.length = 512 * n) (h1 : 128 ≤ n) : (mapB n l).length = 512 * ((n + 4095) / 4096) := by unfold mapB; exact sub_len (by omega)
theorem map_seen (h : Sim N W A G s) : SeenAt W A.img 50176 (mapB A.n A.bytes) := by
  have := h.img.part 50176 (512 * ((A.n + 4095) / 4096))
  rwa [Nat.zero_add] at this
set_option maxRecDepth 100000 in
theorem on_any (h : Sim N W A G s) (i : Nat) (hi : i < 4096 * ((A.n + 4095) / 4096)) : Calls Tryz.prog 59 #[.pointer (some ⟨A.c, 0, none⟩), .int .i64 i] W fun e w' => e = .returned (.bool (bitAt (mapB A.n A.bytes) i)) ∧ Below W.heap.size W w' := by
  have HB := bitmap_at h
  have hlen := mapB_len h.len h.n1
  have hn := h.n2
  have HG : ∀ w' cap, Below W.heap.size W w' → _ := fun w' cap hb => bitGet_any (mapB A.n A.bytes) A.img 50176 cap i w' (map_seen (h.below hb)) (by rw [hlen]; omega) (by rw [hlen]; omega)
  rw [hlen] at HG
  generalize bitAt (mapB A.n A.bytes) i = b at *
  clear h hlen
  go_enter Tryz.func59, Tryz.ntmps59
  go_wp2_with fail
  refine HB.mono ?_
  clear HB
  rintro e w1 ⟨⟨cap, rfl⟩, hb1⟩
  have HG1 := HG w1 cap hb1
  have HM := must_ok w1
  clear HG
  go_wp2_with (first | (go_at_call 102; refine HG1.mono ?_; clear HG1; rintro e w2 ⟨rfl, rfl⟩) | (go_at_call 55; refine HM.mono ?_; clear HM; rintro e w2 ⟨rfl, rfl⟩))
  go_ret
  exact ⟨rfl, hb1⟩
set_option maxRecDepth 100000 in
theorem zeros_any (l : B) (g o cap : Nat) (w : World) (hs : SeenAt w g o l) (hle : l.length ≤ 1000000000000000) (hcap : l.length ≤ cap ∧ cap ≤ 9223372036854775807) :
    Calls Tryz.prog 108 #[.slice (some ⟨g, o, none⟩) l.length cap] w fun e w' => e = .returned (.bool (allZero l)) ∧ w = w' := by
  have HZ := zero_at l g o cap 0 l.length w hs (by omega) hle hcap
  rw [sub_all] at HZ
  have HM := must_ok w
  generalize allZero l = b at *
  clear hs
  go_enter Tryz.func108, Tryz.ntmps108
  go_wp2_with (first | (go_at_call 104; refine HZ.mono ?_; clear HZ; rintro e w2 ⟨rfl, rfl⟩) | (go_at_call 55; refine HM.mono ?_; clear HM; rintro e w2 ⟨rfl, rfl⟩))
  go_ret
  exact ⟨rfl, rfl⟩
/-- A row's slice, written out. -/
theorem own_slice_of {base : Nat} {e : TypeId} {k : Nat} {v : Value} {n : Nat} {xs : List Value} {w : World} (h : w.ownsRow base e k v n xs) : ∃ ao cap, v = .slice ao n cap := by
  rcases h.2 with ⟨rfl, rfl⟩ | ⟨g, cap, cur, rfl, _⟩
  · exact ⟨none, 0, rfl⟩
  · exact ⟨_, cap, rfl⟩
/-- An append to a row of the call's own, in a drawn region. -/
theorem step_append_at {P : Program} {ops : Array Oper} {o : Oper} {a : Act} {K : Act → World → Prop} {Q : Exit → Act → World → Prop} {E : Prop} (w : World) (hgd : o.guard = none) (s x : Operand) (t : TypeId)
    (ho : o.op = .call { callee := .builtin .append, args := #[s, x], argTypes := #[t, t] })
    (base : Nat) (e : TypeId) (i : TypeInfo) (z : Value) (size bytes : Nat) (ht : P.underlying t = some (.slice e)) (hi : P.info? e = some i) (hz : i.zero = some z)
    (hsize : i.size = size) (hby : i.bytes = bytes) (hzs : z.cells.size = size) (hsz : 0 < size)
    (v : Value) (n : Nat) (xs : List Value) (hs : a.eval s = v) (hown : w.ownsRow base e size v n xs)
    (ad : Addr) (m c : Nat) (news : List Value) (hx : a.eval x = .slice (some ad) m c) (hl : news.length = m * size) (hnews : ∀ j u, news[j]? = some u → w.cell? (ad.add j) = some u) (h1 : ∀ u ∈ news, u.oneCell' = true)
    (h63 : n + m ≤ maxLen) (hbytes : (n + m) * bytes ≤ 140737488355328) (hbase : base ≤ w.heap.size)
    (h : ∀ v' w', w'.ownsRow base e size v' (n + m) (xs ++ news) → w.grownBy w' v.ownBlock → (v'.ownBlock = v.ownBlock ∨ v'.ownBlock = some w.heap.size) → K (a.put o.dst v') w') :
    if Region.wanted o (yielded ops a.tmps) = true then Oper.wp P o a w K Q else E := by
  rw [if_pos (by simp [Region.wanted, hgd])]
  obtain ⟨v', w', hr, h2, h3, h4, h5⟩ := run_append_own_at (P := P) w base t o.type e i z size bytes ht hi hz hsize hby hzs hsz v n xs hown ad m c news hl hnews h1 h63 hbytes hbase
  unfold Oper.wp execOp
  simp only [ho, resolve, invoke, builtin, Sem.run_bind, Sem.run_pure, Result.andThen_ok, List.map_toArray, List.map_cons, List.map_nil, hs, hx, hr]
  exact h v' w' h2 h3 h5
theorem info_fnd : (Tryz.prog.info? 34).map (fun i => (i.zero, i.size, i.bytes)) = some (some (.agg #[.int .i64 0, .int .i64 0, .int .i64 0, .string (mk [])]), 4, 40) := by kernel_rfl
set_option maxRecDepth 100000 in
set_option maxHeartbeats 1000000 in
theorem tell_rows (h : Sim N W A G s) (hN : N ≤ 1000000000000) (f : Fnd) : Calls Tryz.prog 60 #[.pointer (some ⟨A.c, 0, none⟩), .agg #[.int .i64 f.kind, .int .i64 f.inode, .int .i64 f.block, .string (mk f.name)]] W
    fun e W' => e = .returned (.tuple #[]) ∧ ∃ G', Sim (N + 1) W' A G' { s with found := s.found ++ [f] } ∧ Stp W G W' G' ∧ (∀ b k, G.who b = .row k → W'.heap[b]? = W.heap[b]? ∧ G'.who b = .row k) := by
  obtain ⟨i0, hi, hz0, hz1, hz2⟩ := info_parts info_fnd
  obtain ⟨q0, q1, q2, q3, q4, q5, q6⟩ := chk_cells h
  obtain ⟨ao, cap, hv⟩ := own_slice_of (h.fnd (by decide))
  have hX := Blk.new W #[.int .i64 f.kind, .int .i64 f.inode, .int .i64 f.block, .string (mk f.name)] 34
  have h1 := h.alloc (.cells #[.int .i64 f.kind, .int .i64 f.inode, .int .i64 f.block, .string (mk f.name)] 34)
  obtain ⟨p0, p1, p2, p3, p4, p5, p6⟩ := chk_cells h1
  have x0 := hX.cell 0
  have x1 := hX.cell 1
  have x2 := hX.cell 2
  have x3 := hX.cell 3
  have hlt : A.c < W.heap.size := (h.low _ (by rw [h.wC]; decide)).2
  rw [hv] at p6
  have hoA := ((h1.alloc (.cells #[.int .i64 f.kind, .int .i64 f.inode, .int .i64 f.block, .string (mk f.name)] 34)).drew).fnd (by decide)
  have hnw : ∀ j u, (fndV f)[j]? = some u → ((W.alloc (.cells #[.int .i64 f.kind, .int .i64 f.inode, .int .i64 f.block, .string (mk f.name)] 34)).alloc (.cells #[.int .i64 f.kind, .int .i64 f.inode, .int .i64 f.block, .string (mk f.name)] 34)).drew.cell? ((⟨W.heap.size + 1, 0, none⟩ : Addr).add j) = some u := fun j u hj => by
    have := news_new (W.alloc (.cells #[.int .i64 f.kind, .int .i64 f.inode, .int .i64 f.block, .string (mk f.name)] 34)) (fndV f) 34 j u hj
    rw [alloc_size] at this
    exact this
  rw [hv] at hoA
  have hK2 : ∀ w2, ((W.alloc (.cells #[.int .i64 f.kind, .int .i64 f.inode, .int .i64 f.block, .string (mk f.name)] 34)).alloc (.cells #[.int .i64 f.kind, .int .i64 f.inode, .int .i64 f.block, .string (mk f.name)] 34)).drew.grownBy w2 (Value.slice ao s.found.length cap).ownBlock → w2.cell? ⟨A.c, 6, none⟩ = some (.slice ao s.found.length cap) ∧ w2.frozen? ⟨A.c, 6, none⟩ = false ∧ w2.cell? ⟨W.heap.size, 0, none⟩ = some (.int .i64 f.kind) ∧ w2.cell? ⟨W.heap.size, 1, none⟩ = some (.int .i64 f.inode) ∧ w2.cell? ⟨W.heap.size, 2, none⟩ = some (.int .i64 f.block) ∧ w2.cell? ⟨W.heap.size, 3, none⟩ = some (.string (mk f.name)) := by
    intro w2 hg2
    have e1 : w2.heap[A.c]? = W.heap[A.c]? := (hg2.block A.c (by simp; omega) (fun e => by have := h.wFnd A.c (by rw [hv]; exact e.symm); rw [h.wC] at this; cases this)).trans (((Below.refl _ _).alloc (Nat.le_refl _) _).alloc (by simp) _ |>.block A.c hlt)
    have e2 : w2.heap[W.heap.size]? = (W.alloc (.cells #[.int .i64 f.kind, .int .i64 f.inode, .int .i64 f.block, .string (mk f.name)] 34)).heap[W.heap.size]? := (hg2.block W.heap.size (by simp; omega) (fun e => by have := (h.low W.heap.size (by rw [h.wFnd W.heap.size (by rw [hv]; exact e.symm)]; decide)).2; omega)).trans (((Below.refl _ _).alloc (Nat.le_refl _) _).block W.heap.size (by simp))
    have b1 := (h.blk (by decide)).same e1
    have b2 := hX.same e2
    exact ⟨by rw [← hv]; exact b1.cell 6, b1.free 6, b2.cell 0, b2.cell 1, b2.cell 2, b2.cell 3⟩
  have hbs := h.base
  have hlF := h.lenF
  clear q0 q1 q2 q3 q4 q5 q6 p0 p1 p2 p3 p4 p5 hX
  have hfin : ∀ v2 w2, w2.ownsRow A.base 34 4 v2 (s.found.length + 1) (fndsV s.found ++ fndV f) → ((W.alloc (.cells #[.int .i64 f.kind, .int .i64 f.inode, .int .i64 f.block, .string (mk f.name)] 34)).alloc (.cells #[.int .i64 f.kind, .int .i64 f.inode, .int .i64 f.block, .string (mk f.name)] 34)).drew.grownBy w2 (Value.slice ao s.found.length cap).ownBlock → (v2.ownBlock = (Value.slice ao s.found.length cap).ownBlock ∨ v2.ownBlock = some ((W.alloc (.cells #[.int .i64 f.kind, .int .i64 f.inode, .int .i64 f.block, .string (mk f.name)] 34)).alloc (.cells #[.int .i64 f.kind, .int .i64 f.inode, .int .i64 f.block, .string (mk f.name)] 34)).drew.heap.size) →
      ∃ G', Sim (N + 1) (w2.setCell ⟨A.c, 6, none⟩ v2) A G' { s with found := s.found ++ [f] } ∧ Stp W G (w2.setCell ⟨A.c, 6, none⟩ v2) G' ∧ (∀ b k, G.who b = .row k → (w2.setCell ⟨A.c, 6, none⟩ v2).heap[b]? = W.heap[b]? ∧ G'.who b = .row k) := by
    intro v2 w2 a1 a2 a3
    rw [← hv] at a2 a3
    obtain ⟨G', b1, b2, b3⟩ := ((h1.alloc (.cells #[.int .i64 f.kind, .int .i64 f.inode, .int .i64 f.block, .string (mk f.name)] 34)).drew).told2 a1 a2 a3
    have hbb : Below W.heap.size W ((W.alloc (.cells #[.int .i64 f.kind, .int .i64 f.inode, .int .i64 f.block, .string (mk f.name)] 34)).alloc (.cells #[.int .i64 f.kind, .int .i64 f.inode, .int .i64 f.block, .string (mk f.name)] 34)).drew := (((Below.refl _ _).alloc (Nat.le_refl _) _).alloc (by simp) _).drew
    exact ⟨G', b1, (Stp.of_below hbb).trans b2, fun b k e => ⟨(b3 b k e).1.trans (hbb.block b (h.low b (by rw [e]; simp)).2), (b3 b k e).2⟩⟩
  replace hfin := Lib.hid hfin
  clear h h1 hv
  go_enter Tryz.func60, Tryz.ntmps60
  go_wp2_with fail
  go_region_law (refine step_append_at _ rfl (.tmp 8) (.tmp 10) 32 rfl A.base 34 i0 _ 4 40 Tryz.underlying32 hi hz0 hz1 hz2 rfl (by decide) _ s.found.length (fndsV s.found) rfl hoA ⟨W.heap.size + 1, 0, none⟩ 1 1 (fndV f) rfl rfl hnw (by simp [fndV, Value.oneCell']) (by unfold maxLen; omega) (by omega) (by simp; omega) ?_; intro v2 w2 hown2 hg2 hloc; obtain ⟨y6, yf, y0, y1, y2, y3⟩ := hK2 w2 hg2; obtain ⟨ao2, cap2, rfl⟩ := own_slice_of hown2)
  all_goals
    go_wp2_with fail
    go_end0
    exact ⟨rfl, hfin.out _ _ hown2 hg2 hloc⟩
theorem tell_any (h : Sim N W A G s) (hN : N ≤ 1000000000000) (f : Fnd) : Calls Tryz.prog 60 #[.pointer (some ⟨A.c, 0, none⟩), .agg #[.int .i64 f.kind, .int .i64 f.inode, .int .i64 f.block, .string (mk f.name)]] W
    fun e W' => e = .returned (.tuple #[]) ∧ ∃ G', Sim (N + 1) W' A G' { s with found := s.found ++ [f] } ∧ Stp W G W' G' := by
  refine (tell_rows h hN f).mono ?_
  rintro e w' ⟨rfl, G', k1, k2, _⟩
  exact ⟨rfl, G', k1, k2⟩
end
end Ck
end Go.Proofs.YtegplehbcdeeoaaGreatDoor
/- The image of a disk behind mkfs. -/
namespace Go.Proofs.YtegplehbcdeeoaaGreatDoor
open Go.RowKit

namespace Ck
open Pk Pw
/-- A bit is set in an image's bitmap. -/
def bitOn (n : Nat) (L : B) (i : Nat) : B := if i < dataN n ∨ n ≤ i then L.set (50176 + i / 8) (UInt8.ofNat ((L.getD (50176 + i / 8) 0).toNat ||| 2 ^ (i % 8))) else L
def bitsOn (n k : Nat) : B := (List.range k).foldl (bitOn n) (lay (zs (512 * n)) 0 (superP n))
def baseP (n : Nat) : B := ((bitsOn n (4096 * ((n + 4095) / 4096))).set (512 * inodesN n + 64) 2).set (512 * inodesN n + 66) 2
theorem bitsOn_succ (n k : Nat) : bitsOn n (k + 1) = bitOn n (bitsOn n k) k := by
  unfold bitsOn
  rw [List.range_succ, List.foldl_append]
  rfl
theorem bitOn_len (n : Nat) (L : B) (i : Nat) : (bitOn n L i).length = L.length := by
  unfold bitOn
  split
  · exact List.length_set
  · rfl
theorem bitsOn_len (n : Nat) (h : 1 ≤ n) : ∀ k, (bitsOn n k).length = 512 * n
  | 0 => by
    show (lay (zs (512 * n)) 0 (superP n)).length = _
    rw [lay_len (by rw [super_len, zs_len]; omega), zs_len]
  | k + 1 => by rw [bitsOn_succ, bitOn_len, bitsOn_len n h k]
theorem bytesC_set (L : B) (j : Nat) (c : UInt8) : (bytesC L).setIfInBounds j (.int .u8 c.toNat) = bytesC (L.set j c) := by
  apply Array.toList_inj.1
  simp [bytesC, bytesV, List.map_set]
theorem or_bit (v m : Nat) (hv : v < 256) (hm : m < 8) : ((UInt8.ofNat (v ||| 2 ^ m)).toNat : Int) = ((v ||| 2 ^ m : Nat) : Int) := by
  have : v ||| 2 ^ m < 2 ^ 8 := Nat.or_lt_two_pow (by omega) (Nat.pow_lt_pow_right (by decide) hm)
  rw [UInt8.toNat_ofNat']
  congr 1
  omega
theorem bits_or8 (v m : Nat) (hv : v < 256) (hm : m < 8) : bits .or .u8 (v : Int) ((2 : Int) ^ m % 256) = ((v ||| 2 ^ m : Nat) : Int) := by
  have h : ∀ m : Fin 8, ∀ v : Fin 256, bits .or .u8 (v.val : Int) ((2 : Int) ^ m.val % 256) = ((v.val ||| 2 ^ m.val : Nat) : Int) := by decide +kernel
  exact h ⟨m, hm⟩ ⟨v, hv⟩
/-- A bit's store. -/
theorem base_go {wr w : World} {D T n k J r : Nat} {ch : UInt8} {C : Array Value} {t t2 : TypeId} (hB : Blk wr D (bytesC (bitsOn n k)) t) (hG : Blk wr T C t2) (hb : Below w.heap.size w wr) (hTD : T < D) (hD : w.heap.size ≤ D)
    (hn : bitsOn n (k + 1) = (bitsOn n k).set J (UInt8.ofNat (ch.toNat ||| 2 ^ r))) (hr : r < 8) : Blk (wr.setCell ⟨D, J, none⟩ (.int .u8 (bits .or .u8 (ch.toNat : Int) ((2 : Int) ^ r % 256)))).drew D (bytesC (bitsOn n (k + 1))) t ∧ Blk (wr.setCell ⟨D, J, none⟩ (.int .u8 (bits .or .u8 (ch.toNat : Int) ((2 : Int) ^ r % 256)))).drew T C t2 ∧ Below w.heap.size w (wr.setCell ⟨D, J, none⟩ (.int .u8 (bits .or .u8 (ch.toNat : Int) ((2 : Int) ^ r % 256)))).drew := by
  rw [bits_or8 ch.toNat r ch.toNat_lt hr, ← or_bit ch.toNat r ch.toNat_lt hr]
  refine ⟨?_, hG.same (setCell_heap _ _ _ _ _ (by omega)), (hb.setCell (p := ⟨D, J, none⟩) hD _).drew⟩
  have := hB.setAt J (.int .u8 ((UInt8.ofNat (ch.toNat ||| 2 ^ r)).toNat : Int))
  rw [bytesC_set, ← hn] at this
  exact this
set_option maxRecDepth 100000 in
set_option maxHeartbeats 2000000 in
theorem base_any (n : Nat) (h1 : 128 ≤ n) (h2 : n ≤ 16384) (w : World) : Calls Tryz.prog 7 #[.int .i64 n] w fun e w' => ∃ b, e = .returned (.slice (some ⟨b, 0, none⟩) (512 * n) (512 * n)) ∧ Blk w' b (bytesC (baseP n)) 5 ∧ w.heap.size ≤ b ∧ Below w.heap.size w w' := by
  have HO := refGeo_good n w h1 h2
  have HS := fun W => refSuper_good n W h1 h2
  go_enter Tryz.func7, Tryz.ntmps7
  go_wp2_with fail
  refine HO.mono ?_
  clear HO
  rintro e w1 ⟨rfl, hb1⟩
  obtain ⟨q0, q1, q2, q3, hq⟩ : ∃ q0 q1 q2 q3 : Nat, geoL n (98 + (n + 4095) / 4096) (98 + (n + 4095) / 4096 + n / 64) (n / 64 * 8) = #[.int .i64 n, .int .i64 98, .int .i64 q1, .int .i64 q2, .int .i64 q3] ∧ q0 = 98 ∧ q1 = inodesN n ∧ q2 = dataN n := ⟨98, inodesN n, dataN n, countN n, by unfold geoL inodesN dataN countN; simp, rfl, rfl, rfl⟩
  obtain ⟨hq, _, hq1, hq2⟩ := hq
  replace hq1 := Lib.hid hq1
  replace hq2 := Lib.hid hq2
  rw [hq]
  have hst := store_new w1 40 #[.int .i64 0, .int .i64 0, .int .i64 0, .int .i64 0, .int .i64 0] #[.int .i64 n, .int .i64 98, .int .i64 q1, .int .i64 q2, .int .i64 q3] (by kernel_rfl) rfl (by simp [Value.oneCell'])
  have hG := Blk.new w1 #[.int .i64 n, .int .i64 98, .int .i64 q1, .int .i64 q2, .int .i64 q3] 40
  have hb2 := hb1.alloc hb1.size (.cells #[.int .i64 n, .int .i64 98, .int .i64 q1, .int .i64 q2, .int .i64 q3] 40)
  clear hq
  generalize w1.alloc (.cells #[.int .i64 n, .int .i64 98, .int .i64 q1, .int .i64 q2, .int .i64 q3] 40) = w2 at *
  have hmk := make_row (512 * n) (by omega) w2
  rw [show ((512 * n : Nat) : Int) = 512 * (n : Int) by omega] at hmk
  have hD := Blk.new w2 (bytesC (zs (512 * n))) 5
  have hb3 := hb2.alloc hb2.size (.cells (bytesC (zs (512 * n))) 5)
  have hG3 := hG.alloc (.cells (bytesC (zs (512 * n))) 5)
  generalize hw3 : w2.alloc (.cells (bytesC (zs (512 * n))) 5) = w3 at *
  have hTD := Lib.hid (show w1.heap.size < w2.heap.size from hG.lt)
  replace hw3 := Lib.hid hw3
  go_wp2_with (first | (refine wpList_store_run _ rfl (.tmp 3) (.tmp 14) 40 rfl _ hst ?_) | (refine wpList_make_run _ rfl _ _ _ rfl _ _ hmk ?_))
  refine (HS w3).mono ?_
  clear HS
  rintro e w4 ⟨v, rfl, hos, hb4⟩
  obtain ⟨g4, cap4, rfl⟩ := own_form hos (by omega)
  have hss := SeenAt.of_own hos
  have hD4 := hD.same (hb4.block _ hD.lt)
  have hG4 := hG3.same (hb4.block _ hG3.lt)
  have hb04 := hb3.trans (hb4.mono hb3.size)
  have hcp := fun ty => copy_bytes (o := 0) (dLen := 512 * n) (dCap := 512 * n) (sLen := 512) (sCap := cap4) (x := superP n) 24 24 ty 5 Tryz.underlying24 (by kernel_rfl) hD4 (by rw [super_len]; omega) hss (by rw [super_len, zs_len]; omega)
  rw [super_len] at hcp
  have hD5 := hD4.setRow (bytesC (lay (zs (512 * n)) 0 (superP n)))
  have hG5 := hG4.same (setRow_heap w4 w2.heap.size w1.heap.size (bytesC (lay (zs (512 * n)) 0 (superP n))) (by have := hTD.out; omega))
  have hb5 := below_setRow hb04 hb2.size (bytesC (lay (zs (512 * n)) 0 (superP n)))
  generalize w4.setRow w2.heap.size (bytesC (lay (zs (512 * n)) 0 (superP n))) = w5 at *
  have hH := Lib.hid (And.intro hD5 (And.intro hG5 hb5))
  have hbase := Lib.hid hb2.size
  clear hD hG hG3 hb1 hb2 hb3 hos hb4 hss hD4 hG4 hb04 hD5 hG5 hb5 hmk hst
  go_wp2_with fail
  go_loopw [8] (fun iv wr => ∃ k : Nat, iv = .int .i64 k ∧ k ≤ 4096 * ((n + 4095) / 4096) ∧ Hid (Blk wr w2.heap.size (bytesC (bitsOn n k)) 5 ∧ Blk wr w1.heap.size #[.int .i64 n, .int .i64 98, .int .i64 q1, .int .i64 q2, .int .i64 q3] 40 ∧ Below w.heap.size w wr)) (fun iv _ => 4096 * ((n + 4095) / 4096) - (intOf iv).toNat)
  case atStart => exact ⟨0, rfl, Nat.zero_le _, hH⟩
  case round =>
    obtain ⟨k, rfl, hk, hR⟩ := hrel
    obtain ⟨hBk, hGk, hbk⟩ := hR.out
    have x1 : wr.cell? ⟨w1.heap.size, 1, none⟩ = some (.int .i64 98) := hGk.cell 1
    have x2 : wr.cell? ⟨w1.heap.size, 2, none⟩ = some (.int .i64 q1) := hGk.cell 2
    have x3 : wr.cell? ⟨w1.heap.size, 3, none⟩ = some (.int .i64 q2) := hGk.cell 3
    have hq1v : (q1 : Int) - 98 = ((n + 4095) / 4096 : Nat) := by rw [hq1.out]; unfold inodesN; omega
    have hM := Lib.hid hq1v
    by_cases c : k < 4096 * ((n + 4095) / 4096)
    · have hci : (k : Int) < 4096 * ((q1 : Int) - 98) := by rw [hq1v]; omega
      have hlen := bitsOn_len n (by omega) k
      have hsu := Lib.hid (bitsOn_succ n k)
      by_cases hd : k < dataN n ∨ n ≤ k
      · have hon := Lib.hid (show bitOn n (bitsOn n k) k = (bitsOn n k).set (50176 + k / 8) (UInt8.ofNat (((bitsOn n k).getD (50176 + k / 8) 0).toNat ||| 2 ^ (k % 8))) by unfold bitOn; rw [if_pos hd])
        have hjl : 50176 + k / 8 < 512 * n := by unfold inodesN at hq1; omega
        obtain ⟨ch, hch⟩ : ∃ ch, (bitsOn n k)[50176 + k / 8]? = some ch := ⟨_, List.getElem?_eq_getElem (by rw [hlen]; exact hjl)⟩
        have hgd : (bitsOn n k).getD (50176 + k / 8) 0 = ch := by rw [List.getD_eq_getElem?_getD, hch]; rfl
        rw [hgd] at hon
        have y0 := hBk.cell (50176 + k / 8)
        rw [bytesC_get, hch] at y0
        replace y0 : wr.cell? ⟨w2.heap.size, 50176 + k / 8, none⟩ = some (.int .u8 ch.toNat) := y0
        have y1 := hBk.free (50176 + k / 8)
        have hor := or_bit ch.toNat (k % 8) ch.toNat_lt (by omega)
        have hd2 : (k : Int) < (q2 : Int) ∨ (¬ (k : Int) < (q2 : Int) ∧ (n : Int) ≤ (k : Int)) := by rw [hq2.out]; omega
        have hnx := Lib.hid (show bitsOn n (k + 1) = (bitsOn n k).set (50176 + k / 8) (UInt8.ofNat (ch.toNat ||| 2 ^ (k % 8))) by rw [hsu.out, hon.out])
        have hst := Lib.hid (bytesC_set (bitsOn n k) (50176 + k / 8) (UInt8.ofNat (ch.toNat ||| 2 ^ (k % 8))))
        obtain ⟨J, hJ⟩ : ∃ J, J = 50176 + k / 8 := ⟨_, rfl⟩
        have hJi : (50176 : Int) + (k : Int) / 8 = (J : Int) := by omega
        rw [← hJ] at y0 y1 hnx hst hjl
        replace hJ := Lib.hid hJ
        have hjl2 := hjl
        have hjl3 : (J : Int) < 512 * (n : Int) := by omega
        have hjl4 : ¬ 512 * (n : Int) ≤ (J : Int) := by omega
        obtain ⟨r, hr⟩ : ∃ r, r = k % 8 := ⟨_, rfl⟩
        have hri : (k : Int) % 8 = (r : Int) := by omega
        have hrt : (k : Int).tmod 8 = (r : Int) := by rw [Int.tmod_eq_emod_of_nonneg (by omega)]; omega
        have r8 : r < 8 := by omega
        have r8i : (r : Int) < 8 := by omega
        rw [← hr] at hnx hst hor
        replace hr := Lib.hid hr
        have hc256 := ch.toNat_lt
        have kb : k ≤ 16384 := by omega
        have nb : n ≤ 16384 := h2
        have qb : 98 ≤ q1 ∧ q1 ≤ 102 := by rw [hq1.out]; unfold inodesN; omega
        obtain ⟨qb1, qb2⟩ := qb
        have qb3 : q2 ≤ 400 := by rw [hq2.out]; unfold dataN; omega
        have hkk := Lib.hid (And.intro hk (And.intro c (And.intro hjl (And.intro hlen (And.intro hor (And.intro h1 h2))))))
        have hgo := Lib.hid (base_go hBk hGk hbk hTD.out hbase.out hnx.out r8)
        clear hd hch hgd hon hsu hBk hGk hbk hq1v hk c hjl hlen hor h1 h2
        rcases hd2 with h3 | ⟨h3, h4⟩
        all_goals
          go_wp2_with fail
          go_still_tail 11, (by kernel_rfl)
          change wpList _ _ _ _ _ wr.drew
          go_wp2_with fail
          go_roundw
          case rel => exact ⟨k + 1, by go_num, by have := hkk.out; omega, hgo⟩
          case measure => have := hkk.out; simp only [intOf]; omega
      · have hon := Lib.hid (show bitsOn n (k + 1) = bitsOn n k by rw [hsu.out]; unfold bitOn; rw [if_neg hd])
        have h3 : ¬ (k : Int) < (q2 : Int) := by rw [hq2.out]; omega
        have h4 : ¬ (n : Int) ≤ (k : Int) := by omega
        have kb : k ≤ 16384 := by omega
        have nb : n ≤ 16384 := h2
        have qb : 98 ≤ q1 ∧ q1 ≤ 102 := by rw [hq1.out]; unfold inodesN; omega
        obtain ⟨qb1, qb2⟩ := qb
        have qb3 : q2 ≤ 400 := by rw [hq2.out]; unfold dataN; omega
        have hkk := Lib.hid (And.intro hk c)
        clear hd hsu hBk hGk hbk hq1v hk c hlen h1 h2
        go_wp2_with fail
        go_roundw
        case rel => exact ⟨k + 1, by go_num, by have := hkk.out; omega, by rw [hon.out]; exact hR⟩
        case measure => have := hkk.out; simp only [intOf]; omega
    · have hkM : k = 4096 * ((n + 4095) / 4096) := by omega
      have hci : ¬ (k : Int) < 4096 * ((q1 : Int) - 98) := by rw [hq1v]; omega
      have hlen := bitsOn_len n (by omega) k
      have kb : k ≤ 16384 := by omega
      have nb : n ≤ 16384 := h2
      have qb : 98 ≤ q1 ∧ q1 ≤ 102 := by rw [hq1.out]; unfold inodesN; omega
      obtain ⟨qb1, qb2⟩ := qb
      obtain ⟨R, hRR⟩ : ∃ R, R = 512 * q1 + 64 := ⟨_, rfl⟩
      have hRi : 512 * (q1 : Int) + 64 = (R : Int) := by omega
      have hbp := Lib.hid (show baseP n = ((bitsOn n k).set R 2).set (R + 2) 2 by unfold baseP; rw [← hkM, hRR, hq1.out])
      have hn128 : 128 ≤ n := h1
      have hRl : R + 2 < 512 * n := by omega
      have r1 : (R : Int) < 512 * (n : Int) := by omega
      have r2 : (R : Int) + 2 < 512 * (n : Int) := by omega
      have r3 : ((R : Int) + 2).toNat = R + 2 := by omega
      have r4 : ¬ ((R : Int) + 2 < 0) := by omega
      have rb : R ≤ 60000 := by omega
      generalize bitsOn n k = L at *
      obtain ⟨z0, hz0⟩ : ∃ z, L[R]? = some z := ⟨_, List.getElem?_eq_getElem (by omega)⟩
      obtain ⟨z1, hz1⟩ : ∃ z, (L.set R 2)[R + 2]? = some z := ⟨_, List.getElem?_eq_getElem (by rw [List.length_set]; omega)⟩
      have hB1 := hBk.setAt R (.int .u8 2)
      rw [show (bytesC L).setIfInBounds R (.int .u8 2) = bytesC (L.set R 2) from bytesC_set L R 2] at hB1
      have hB2 := hB1.setAt (R + 2) (.int .u8 2)
      rw [show (bytesC (L.set R 2)).setIfInBounds (R + 2) (.int .u8 2) = bytesC ((L.set R 2).set (R + 2) 2) from bytesC_set (L.set R 2) (R + 2) 2, ← hbp.out] at hB2
      have y0 := hBk.cell R
      rw [bytesC_get, hz0] at y0
      replace y0 : wr.cell? ⟨w2.heap.size, R, none⟩ = some (.int .u8 z0.toNat) := y0
      have y1 := hBk.free R
      have y2 := hB1.cell (R + 2)
      rw [bytesC_get, hz1] at y2
      replace y2 : (wr.setCell ⟨w2.heap.size, R, none⟩ (.int .u8 2)).cell? ⟨w2.heap.size, R + 2, none⟩ = some (.int .u8 z1.toNat) := y2
      have y3 := hB1.free (R + 2)
      have xg : (wr.setCell ⟨w2.heap.size, R, none⟩ (.int .u8 2)).cell? ⟨w1.heap.size, 2, none⟩ = some (.int .i64 q1) := (hGk.same (setCell_heap _ _ _ _ _ (by have := hTD.out; omega))).cell 2
      have hfin := Lib.hid (And.intro hB2 (And.intro hbase.out ((hbk.setCell (p := ⟨w2.heap.size, R, none⟩) hbase.out (.int .u8 2)).setCell (p := ⟨w2.heap.size, R + 2, none⟩) hbase.out (.int .u8 2))))
      clear hR hB1 hB2 hBk hGk hbk hz0 hz1 hlen hkM hk c hRR hq1v hRl hn128 h1 h2
      go_wp2_with fail
      go_ret
      exact ⟨_, rfl, hfin.out.1, hfin.out.2.1, hfin.out.2.2⟩
end Ck
end Go.Proofs.YtegplehbcdeeoaaGreatDoor
/- An image with bytes laid into it. -/
namespace Go.Proofs.YtegplehbcdeeoaaGreatDoor
open Go.RowKit

namespace Ck
open Pk Pw
/-- Bytes that are laid into an image. -/
structure Po where
  block : Int
  at' : Int
  bytes : B
/-- So many of its bytes, laid. -/
def pokeTo (L : B) (p : Po) (k : Nat) : B :=
  if p.block < 0 ∨ 20000 < p.block ∨ p.at' < 0 ∨ 20000 < p.at' then L
  else (List.range k).foldl (fun L j => if 512 * p.block.toNat + p.at'.toNat + j < L.length then L.set (512 * p.block.toNat + p.at'.toNat + j) (p.bytes.getD j 0) else L) L
def pokedP (L : B) (ps : List Po) : B := ps.foldl (fun L p => pokeTo L p p.bytes.length) L
theorem pokeTo_succ (L : B) (p : Po) (k : Nat) : pokeTo L p (k + 1) = if p.block < 0 ∨ 20000 < p.block ∨ p.at' < 0 ∨ 20000 < p.at' then L else if 512 * p.block.toNat + p.at'.toNat + k < (pokeTo L p k).length then (pokeTo L p k).set (512 * p.block.toNat + p.at'.toNat + k) (p.bytes.getD k 0) else pokeTo L p k := by
  unfold pokeTo
  split
  · rfl
  · rw [List.range_succ, List.foldl_append]
    rfl
theorem pokeTo_len (L : B) (p : Po) : ∀ k, (pokeTo L p k).length = L.length
  | 0 => by unfold pokeTo; split <;> rfl
  | k + 1 => by
    rw [pokeTo_succ]
    split
    · rfl
    · split
      · rw [List.length_set]; exact pokeTo_len L p k
      · exact pokeTo_len L p k
theorem poked_take {ps : List Po} {k : Nat} {p : Po} (L : B) (h : ps[k]? = some p) : pokedP L (ps.take (k + 1)) = pokeTo (pokedP L (ps.take k)) p p.bytes.length := by
  unfold pokedP
  rw [List.take_add_one, h, List.foldl_append]
  rfl
theorem pokedP_len (L : B) : ∀ ps, (pokedP L ps).length = L.length
  | [] => rfl
  | p :: ps => by
    show (pokedP (pokeTo L p p.bytes.length) ps).length = _
    rw [pokedP_len _ ps, pokeTo_len]
/-- Bytes and their places, where a slice shows them. -/
def PoAt (w : World) (ao : Option Addr) (ps : List Po) : Prop := ∀ i p, ps[i]? = some p → ∃ g o bo cap, ao = some ⟨g, o, none⟩ ∧ g < w.heap.size ∧ w.cell? ⟨g, o + i * 3, none⟩ = some (.int .i64 p.block) ∧ w.cell? ⟨g, o + i * 3 + 1, none⟩ = some (.int .i64 p.at') ∧ w.cell? ⟨g, o + i * 3 + 2, none⟩ = some (.slice bo p.bytes.length cap) ∧
  ∀ j c, p.bytes[j]? = some c → ∃ h q, bo = some ⟨h, q, none⟩ ∧ h < w.heap.size ∧ w.cell? ⟨h, q + j, none⟩ = some (.int .u8 c.toNat)
theorem PoAt.below {w w' : World} {ao : Option Addr} {ps : List Po} (h : PoAt w ao ps) (hb : Below w.heap.size w w') : PoAt w' ao ps := fun i p hp => by
  obtain ⟨g, o, bo, cap, rfl, hg, e0, e1, e2, hc⟩ := h i p hp
  have e := hb.block g hg
  refine ⟨g, o, bo, cap, rfl, Nat.lt_of_lt_of_le hg hb.size, (World.cell?_of_block (a := ⟨g, _, none⟩) e).trans e0, (World.cell?_of_block (a := ⟨g, _, none⟩) e).trans e1, (World.cell?_of_block (a := ⟨g, _, none⟩) e).trans e2, fun j c hj => ?_⟩
  obtain ⟨h2, q, rfl, hh, e3⟩ := hc j c hj
  exact ⟨h2, q, rfl, Nat.lt_of_lt_of_le hh hb.size, (World.cell?_of_block (a := ⟨h2, _, none⟩) (hb.block h2 hh)).trans e3⟩
theorem own_empty (w : World) : (w.alloc (.cells #[] 5)).ownsRow w.heap.size 5 1 (.slice (some ⟨w.heap.size, 0, none⟩) 0 0) 0 (bytesV []) :=
  ⟨rfl, .inr ⟨w.heap.size, 0, #[], rfl, Nat.le_refl _, Blk.new w #[] 5, Nat.le_refl _, by unfold maxLen; omega, rfl, rfl⟩⟩
set_option maxRecDepth 100000 in
set_option maxHeartbeats 2000000 in
theorem poked_any (l : B) (ps : List Po) (g o cap : Nat) (ao : Option Addr) (cap2 : Nat) (w : World) (hl0 : 0 < l.length) (hl : l.length ≤ 100000000) (hs : SeenAt w g o l) (hg : g < w.heap.size) (hp : PoAt w ao ps) (hpl : ps.length ≤ 100000000) (hpb : ∀ p ∈ ps, p.bytes.length ≤ 100000000) :
    Calls Tryz.prog 9 #[.slice (some ⟨g, o, none⟩) l.length cap, .slice ao ps.length cap2] w fun e w' => ∃ b cp ext, e = .returned (.slice (some ⟨b, 0, none⟩) l.length cp) ∧ Blk w' b (bytesC (pokedP l ps) ++ ext) 5 ∧ w.heap.size ≤ b ∧ Below w.heap.size w w' ∧ l.length ≤ cp ∧ cp ≤ 9223372036854775807 := by
  have hb0 := (Below.refl w.heap.size w).alloc (Nat.le_refl _) (.cells #[] 5)
  have ho0 := own_empty w
  have hs0 := hs.below hg hb0
  have hP0 := Lib.hid hp
  have hM := Lib.hid hpb
  clear hp hpb hs
  go_enter Tryz.func9, Tryz.ntmps9
  go_wp2_with (at_builtin; go_must (refine wpList_append_seen (w.alloc (.cells #[] 5)) rfl _ _ rfl w.heap.size _ [] l 0 l.length g o cap rfl rfl (by rfl) ho0 (by rfl) hs0 (by simp; omega) (by simp) ?_); intro v1 w1 ho1 hg1 hat1)
  rw [List.nil_append, Nat.zero_add] at ho1
  obtain ⟨b, cp, ext, rfl, hbb, hblk, hc1, hc2⟩ := own_blk ho1 hl0
  have hb1 := hb0.grown hg1 hb0.size (fun k hk => by cases hk; exact Nat.le_refl _)
  have hH := Lib.hid (And.intro hblk hb1)
  clear ho1 hg1 hat1 hblk hb1 ho0 hb0 hs0
  go_loopw [6] (fun iv wr => ∃ i : Nat, iv = .int .i64 i ∧ i ≤ ps.length ∧ Hid (Blk wr b (bytesC (pokedP l (ps.take i)) ++ ext) 5 ∧ Below w.heap.size w wr)) (fun iv _ => ps.length - (intOf iv).toNat)
  case atStart => exact ⟨0, rfl, Nat.zero_le _, hH⟩
  case round =>
    obtain ⟨i, rfl, hi, hR⟩ := hrel
    by_cases c : i < ps.length
    · have hci : (i : Int) < (ps.length : Int) := by omega
      obtain ⟨p, hp⟩ : ∃ p, ps[i]? = some p := ⟨_, List.getElem?_eq_getElem c⟩
      have hpt := Lib.hid (poked_take l hp)
      have hLl := pokedP_len l (ps.take i)
      have hpb := hM.out p (List.mem_of_getElem? hp)
      have hPo := Lib.hid (fun V (hb : Below w.heap.size w V) => hP0.out.below hb i p hp)
      generalize pokedP l (ps.take i) = L at *
      replace hLl := Lib.hid hLl
      clear hp
      go_wp2_with fail
      go_loopw [7] (fun kv wx => ∃ k : Nat, kv = .int .i64 k ∧ k ≤ p.bytes.length ∧ Hid (Blk wx b (bytesC (pokeTo L p k) ++ ext) 5 ∧ Below w.heap.size w wx)) (fun kv _ => p.bytes.length - (intOf kv).toNat)
      case atStart => exact ⟨0, rfl, Nat.zero_le _, by rw [show pokeTo L p 0 = L by unfold pokeTo; split <;> rfl]; exact hR⟩
      case round =>
        obtain ⟨k, rfl, hk, hX⟩ := hrel
        obtain ⟨g2, o2, bo, cap3, rfl, hg2, e0, e1, e2, hcs⟩ := hPo.out _ hX.out.2
        by_cases ck : k < p.bytes.length
        · have hck : (k : Int) < (p.bytes.length : Int) := by omega
          have hsu := Lib.hid (pokeTo_succ L p k)
          obtain ⟨ch, hch⟩ : ∃ ch, p.bytes[k]? = some ch := ⟨_, List.getElem?_eq_getElem ck⟩
          obtain ⟨h3, q3, rfl, hh3, e3⟩ := hcs k ch hch
          by_cases hbad : p.block < 0 ∨ 20000 < p.block ∨ p.at' < 0 ∨ 20000 < p.at'
          · have hnx := Lib.hid (show pokeTo L p (k + 1) = pokeTo L p k by rw [hsu.out, if_pos hbad]; unfold pokeTo; rw [if_pos hbad])
            have hb4 : p.block < 0 ∨ (¬ p.block < 0 ∧ 20000 < p.block) ∨ (¬ p.block < 0 ∧ ¬ 20000 < p.block ∧ p.at' < 0) ∨ (¬ p.block < 0 ∧ ¬ 20000 < p.block ∧ ¬ p.at' < 0 ∧ 20000 < p.at') := by omega
            have hkk := Lib.hid ck
            clear hbad hcs hch hsu ck
            rcases hb4 with n1 | ⟨n1, n2⟩ | ⟨n1, n2, n3⟩ | ⟨n1, n2, n3, n4⟩
            all_goals
              go_wp2_with fail
              go_roundw
              case rel => exact ⟨k + 1, by go_num, by have := hkk.out; omega, by rw [hnx.out]; exact hX⟩
              case measure => have := hkk.out; simp only [intOf]; omega
          · obtain ⟨X, hXX⟩ : ∃ X : Nat, p.block = X := ⟨p.block.toNat, by omega⟩
            obtain ⟨Y, hYY⟩ : ∃ Y : Nat, p.at' = Y := ⟨p.at'.toNat, by omega⟩
            have hXb : X ≤ 20000 := by omega
            have hYb : Y ≤ 20000 := by omega
            obtain ⟨J, hJ⟩ : ∃ J, J = 512 * X + Y + k := ⟨_, rfl⟩
            have hJi : 512 * (X : Int) + (Y : Int) + (k : Int) = (J : Int) := by omega
            have hJb : J ≤ 200000000 := by omega
            have hgd : p.bytes.getD k 0 = ch := by rw [List.getD_eq_getElem?_getD, hch]; rfl
            have hst := Lib.hid (show pokeTo L p (k + 1) = if J < (pokeTo L p k).length then (pokeTo L p k).set J ch else pokeTo L p k by rw [hsu.out, if_neg hbad, hXX, hYY, Int.toNat_natCast, Int.toNat_natCast, hgd, ← hJ])
            have hlen := (pokeTo_len L p k).trans hLl.out
            rw [hXX] at e0
            rw [hYY] at e1
            have x1 : ¬ (X : Int) < 0 := by omega
            have x2 : ¬ 20000 < (X : Int) := by omega
            have x3 : ¬ (Y : Int) < 0 := by omega
            have x4 : ¬ 20000 < (Y : Int) := by omega
            have hkk := Lib.hid (And.intro ck hpb)
            replace hJ := Lib.hid hJ
            generalize pokeTo L p k = M at *
            generalize hM2 : pokeTo L p (k + 1) = M2 at *
            replace hM2 := Lib.hid hM2
            generalize p.bytes.length = pl at *
            clear hbad hcs hch hsu hgd hXX hYY hpt hPo ck hpb
            by_cases cj : J < l.length
            · have hcj : (J : Int) < (l.length : Int) := by omega
              have hst2 := Lib.hid (show M2 = M.set J ch by rw [hst.out, if_pos (by rw [hlen]; exact cj)])
              obtain ⟨z, hz⟩ : ∃ z, M[J]? = some z := ⟨_, List.getElem?_eq_getElem (by rw [hlen]; exact cj)⟩
              have y0 := hX.out.1.cell J
              rw [Array.getElem?_append_left (by rw [bytesC_size, hlen]; exact cj), bytesC_get, hz] at y0
              replace y0 : wr.cell? ⟨b, J, none⟩ = some (.int .u8 z.toNat) := y0
              have y1 := hX.out.1.free J
              have hgo := hX.out.1.setAt J (.int .u8 ch.toNat)
              rw [set_left _ _ _ _ (by rw [bytesC_size, hlen]; exact cj), bytesC_set, ← hst2.out] at hgo
              have hfin := Lib.hid (fun q : Nat => And.intro (show Blk ((wr.drewN q).setCell ⟨b, J, none⟩ (.int .u8 ch.toNat)) b (bytesC M2 ++ ext) 5 from hgo) ((below_drewN hX.out.2 q).setCell (p := ⟨b, J, none⟩) hbb (.int .u8 ch.toNat)))
              clear hX hgo hz hlen hst hst2
              go_wp2_with fail
              go_quiet (fail)
              go_wp2_with fail
              go_roundw
              case rel => exact ⟨k + 1, by go_num, by have := hkk.out; omega, by rw [hM2.out]; exact Lib.hid (hfin.out _)⟩
              case measure => have := hkk.out; simp only [intOf]; omega
            · have hcj : ¬ (J : Int) < (l.length : Int) := by omega
              have hst2 := Lib.hid (show M2 = M by rw [hst.out, if_neg (by rw [hlen]; exact cj)])
              have hfin := Lib.hid (fun q : Nat => And.intro (show Blk (wr.drewN q) b (bytesC M2 ++ ext) 5 from by rw [hst2.out]; exact hX.out.1) (below_drewN hX.out.2 q))
              clear hX hlen hst hst2
              go_wp2_with fail
              go_quiet (fail)
              go_wp2_with fail
              go_roundw
              case rel => exact ⟨k + 1, by go_num, by have := hkk.out; omega, by rw [hM2.out]; exact Lib.hid (hfin.out _)⟩
              case measure => have := hkk.out; simp only [intOf]; omega
        · have hke : k = p.bytes.length := by omega
          have hck : ¬ (k : Int) < (p.bytes.length : Int) := by omega
          have hfin := Lib.hid (show Blk wr b (bytesC (pokedP l (ps.take (i + 1))) ++ ext) 5 ∧ Below w.heap.size w wr by rw [hpt.out, ← hke]; exact hX.out)
          have hkk := Lib.hid c
          clear hX hke hpt hPo hcs
          go_wp2_with fail
          exact ⟨⟨i + 1, by go_num, by have := hkk.out; omega, hfin⟩, by have := hkk.out; simp only [intOf]; omega⟩
    · have hie : i = ps.length := by omega
      have hci : ¬ (i : Int) < (ps.length : Int) := by omega
      have hfin := Lib.hid (show Blk wr b (bytesC (pokedP l ps) ++ ext) 5 ∧ Below w.heap.size w wr by rw [hie, List.take_length] at hR; exact hR.out)
      clear hR hie
      go_wp2_with fail
      go_ret
      exact ⟨b, cp, rfl, ⟨ext, hfin.out.1⟩, hbb, hfin.out.2, hc1, hc2⟩
end Ck
end Go.Proofs.YtegplehbcdeeoaaGreatDoor
