/- The door of the program's Decode: what the two deferred closures make of a panic, of an error, of an answer. -/
import Derived.Test.YtnmgdlmicgbapaaDoorDWCatch
import Derived.Test.YtnmgdlmicgbapaaDoorDBlk
namespace Go.Proofs.YtnmgdlmicgbapaaDoor
open Go.RowKit

namespace Pw
open Pk
/-- What is deferred. -/
abbrev defs (pe pl : Addr) : List Deferred := [{ target := .fn (.func 11) #[.pointer (some pe)], args := #[] }, { target := .fn (.func 10) #[.pointer (some pe), .pointer (some pl)], args := #[] }]
/-- The results, read out of the two variables. -/
theorem door_results {tmps : Array Value} {W : World} {pe pl : Addr} {v : Value} {n : Int} (h2 : tmps[2]? = some (.pointer (some pl))) (h3 : tmps[3]? = some (.pointer (some pe))) (hl : W.cell? pl = some v) (he : W.cell? pe = some (.int .i64 n)) :
    (results Tryd.f5 tmps).run Tryd.prog W = .ok (.tuple #[v, .int .i64 n]) W := by
  simp [results, Tryd.results5, go_sem, h2, h3, hl, he]
set_option maxRecDepth 100000 in
/-- A panic with the errno. -/
theorem door_gave {R : Ending → World → Prop} {tmps : Array Value} {W : World} {pe pl : Addr} {v : Value} {n : Int} (hne : pl ≠ pe) (h2 : tmps[2]? = some (.pointer (some pl))) (h3 : tmps[3]? = some (.pointer (some pe)))
    (hl : W.cell? pl = some v) (he : W.cell? pe = some (.int .i64 n)) (fl : W.frozen? pl = false) (fe : W.frozen? pe = false)
    (hR : R (.returned (.tuple #[.slice none 0 0, .int .i64 240])) ((W.setCell pe (.int .i64 240)).drew.setCell pl (.slice none 0 0))) :
    bodyPostD Tryd.prog Tryd.f5 R (Exit.panic gaveUp) { tmps := tmps, defers := defs pe pl } W := by
  refine leaves_cons (f := 11) (args := #[.pointer (some pe)]) (by simp) (by simp [go_sem]) ?_
  refine (catch_err pe W n 240 [] he fe).mono ?_
  rintro e u' w' ⟨rfl, rfl, rfl⟩
  have q1 : (W.setCell pe (.int .i64 240)).drew.cell? pe = some (.int .i64 240) := World.cell?_setCell_same _ _ _ he
  have q2 : (W.setCell pe (.int .i64 240)).drew.cell? pl = some v := (World.cell?_setCell_other _ _ _ _ (Ne.symm hne)).trans hl
  have g2 : (W.setCell pe (.int .i64 240)).drew.frozen? pl = false := (World.frozen?_setCell _ _ _ _).trans fl
  refine leaves_cons (f := 10) (args := #[.pointer (some pe), .pointer (some pl)]) (by simp [settle]) (by simp [go_sem]) ?_
  refine (drop_err pe pl _ _ 240 v q1 (by decide) q2 g2).mono ?_
  rintro e u' w' ⟨rfl, rfl, rfl⟩
  have k1 := World.cell?_setCell_same (W.setCell pe (.int .i64 240)).drew pl (.slice none 0 0) q2
  have k2 := (World.cell?_setCell_other (W.setCell pe (.int .i64 240)).drew pl pe (.slice none 0 0) hne).trans q1
  exact ⟨_, door_results h2 h3 k1 k2, hR⟩
set_option maxRecDepth 100000 in
/-- An answer with an errno, the list already taken away. -/
theorem door_no {R : Ending → World → Prop} {tmps : Array Value} {W : World} {pe pl : Addr} {v : Value} (hne : pl ≠ pe) (h2 : tmps[2]? = some (.pointer (some pl))) (h3 : tmps[3]? = some (.pointer (some pe)))
    (hl : W.cell? pl = some v) (he : W.cell? pe = some (.int .i64 240)) (fl : W.frozen? pl = false) (fe : W.frozen? pe = false)
    (hR : R (.returned (.tuple #[.slice none 0 0, .int .i64 240])) ((W.setCell pe (.int .i64 240)).drew.setCell pl (.slice none 0 0))) :
    bodyPostD Tryd.prog Tryd.f5 R Exit.ret { tmps := tmps, defers := defs pe pl } W := by
  refine leaves_cons (f := 11) (args := #[.pointer (some pe)]) (by simp) (by simp [go_sem]) ?_
  refine (catch_idle pe W 240 he fe).mono ?_
  rintro e u' w' ⟨rfl, rfl, rfl⟩
  have q1 : (W.setCell pe (.int .i64 240)).drew.cell? pe = some (.int .i64 240) := World.cell?_setCell_same _ _ _ he
  have q2 : (W.setCell pe (.int .i64 240)).drew.cell? pl = some v := (World.cell?_setCell_other _ _ _ _ (Ne.symm hne)).trans hl
  have g2 : (W.setCell pe (.int .i64 240)).drew.frozen? pl = false := (World.frozen?_setCell _ _ _ _).trans fl
  refine leaves_cons (f := 10) (args := #[.pointer (some pe), .pointer (some pl)]) (by simp [settle]) (by simp [go_sem]) ?_
  refine (drop_err pe pl _ _ 240 v q1 (by decide) q2 g2).mono ?_
  rintro e u' w' ⟨rfl, rfl, rfl⟩
  have k1 := World.cell?_setCell_same (W.setCell pe (.int .i64 240)).drew pl (.slice none 0 0) q2
  have k2 := (World.cell?_setCell_other (W.setCell pe (.int .i64 240)).drew pl pe (.slice none 0 0) hne).trans q1
  exact ⟨_, door_results h2 h3 k1 k2, hR⟩
set_option maxRecDepth 100000 in
/-- An answer without an error. -/
theorem door_yes {R : Ending → World → Prop} {tmps : Array Value} {W : World} {pe pl : Addr} {v : Value} (hne : pl ≠ pe) (h2 : tmps[2]? = some (.pointer (some pl))) (h3 : tmps[3]? = some (.pointer (some pe)))
    (hl : W.cell? pl = some v) (he : W.cell? pe = some (.int .i64 0)) (fe : W.frozen? pe = false)
    (hR : R (.returned (.tuple #[v, .int .i64 0])) (W.setCell pe (.int .i64 0)).drew) :
    bodyPostD Tryd.prog Tryd.f5 R Exit.ret { tmps := tmps, defers := defs pe pl } W := by
  refine leaves_cons (f := 11) (args := #[.pointer (some pe)]) (by simp) (by simp [go_sem]) ?_
  refine (catch_idle pe W 0 he fe).mono ?_
  rintro e u' w' ⟨rfl, rfl, rfl⟩
  have q1 : (W.setCell pe (.int .i64 0)).drew.cell? pe = some (.int .i64 0) := World.cell?_setCell_same _ _ _ he
  have q2 : (W.setCell pe (.int .i64 0)).drew.cell? pl = some v := (World.cell?_setCell_other _ _ _ _ (Ne.symm hne)).trans hl
  refine leaves_cons (f := 10) (args := #[.pointer (some pe), .pointer (some pl)]) (by simp [settle]) (by simp [go_sem]) ?_
  refine (drop_idle pe pl _ _ q1).mono ?_
  rintro e u' w' ⟨rfl, rfl, rfl⟩
  exact ⟨_, door_results h2 h3 q2 q1, hR⟩
end Pw
end Go.Proofs.YtnmgdlmicgbapaaDoor
