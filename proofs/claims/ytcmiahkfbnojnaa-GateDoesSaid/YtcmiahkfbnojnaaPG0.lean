/- A part of the proof of a law of this seat: a text of its own. No condition. -/
import Derived.Test.YtcmiahkfbnojnaaPS
set_option linter.all false
set_option linter.unusedVariables false
namespace Go.Av
open Go.Proofs
def G3 (Ca : Nat → List AV → St → (AV → St → Prop) → Prop) (a0 : AV) (S0 : St) (Q : AV → St → Prop) : Prop :=
    callK Ca 10 [] S0 fun t10 S =>
    optK (unA .not t10) fun t11 =>
    ifK t11
    (optK (some (.bool false)) fun rr =>
      Q rr S)
    (optK (lenSlA (AV.strip a0)) fun t13 =>
      optK (binA .gtr t13 (.int .i64 300)) fun t14 =>
      ifK t14
      (optK (some (.bool true)) fun rr =>
        Q rr S)
      (joinK (fun (S_25 : St) =>
          optK (some (.bool true)) fun rr =>
          Q rr S_25) fun j_9 =>
        optK (lenSlA (AV.strip a0)) fun t16 =>
        loopQ ([(.int .i64 0)], [(some T29.zero)]) (fun v bx => ([v 17], [bx 4])) (fun nx v bx S_2 =>
          optK (binA .lss (v 17) t16) fun t18 =>
          ifK t18
          (optK (idxSlA T31 (AV.strip a0) (v 17)) fun t19 =>
            optK (loadA T31 S_2 t19) fun t20 =>
            optK (lstoreA T31 (some T31.zero) 0 (AV.strip t20)) fun b6 =>
            optK (some b6) fun _ =>
            optK (lloadA T5 (some b6) 1) fun t22 =>
            optK (convIntA .i64 (AV.strip t22)) fun t23 =>
            joinK (fun (x7 : AV) (x8 : AV) (y4 : Option (List AV)) (S_9 : St) =>
              optK (binE .bool .neq (AV.strip x7) (AV.strip x8)) fun t57 =>
              joinK (fun (x63 : AV) (S_11 : St) =>
                optK (pickA (AV.strip t57) (.bool true) x63) fun t64 =>
                joinK (fun (x70 : AV) (S_13 : St) =>
                  optK (pickA (AV.strip (AV.strip t64)) (.bool true) x70) fun t71 =>
                  joinK (fun (x77 : AV) (S_15 : St) =>
                    optK (pickA (AV.strip (AV.strip t71)) (.bool true) x77) fun t78 =>
                    joinK (fun (x85 : AV) (S_18 : St) =>
                      optK (pickA (AV.strip (AV.strip t78)) (.bool true) x85) fun t86 =>
                      joinK (fun (x89 : AV) (S_20 : St) =>
                        optK (pickA (AV.strip (AV.strip t86)) (.bool true) x89) fun t90 =>
                        joinK (fun (x97 : AV) (S_24 : St) =>
                          optK (pickA (AV.strip (AV.strip t90)) (.bool true) x97) fun t98 =>
                          ifK (AV.strip t98)
                          (optK (some (.bool false)) fun rr =>
                            Q rr S_24)
                          (optK (binA .add (v 17) (.int .i64 1)) fun t99 =>
                            nx ([(AV.strip t99)], [y4]) S_24)) fun j_2 =>
                        ifK (AV.strip (AV.strip t90))
                        (j_2 (.tup []) S_20)
                        (callK Ca 18 [(.ptr S.length 0)] S_20 fun t92 S_21 =>
                          optK (binA .eql t92 (.int .i64 1)) fun t93 =>
                          joinK (fun (x96 : AV) (S_23 : St) =>
                            optK (pickA (AV.strip t93) x96 (.bool false)) fun t97 =>
                            j_2 (AV.strip t97) S_23) fun j =>
                          gK (AV.strip t93)
                          (callK Ca 17 [(.ptr S.length 0)] S_21 fun t95 S_22 =>
                            optK (binA .gtr t95 (.int .i64 0)) fun t96 =>
                            j t96 S_22)
                          (j (.tup []) S_21)
                          (j (.tup []) S_21))) fun j_3 =>
                      ifK (AV.strip (AV.strip t86))
                      (j_3 (.tup []) S_18)
                      (callK Ca 18 [(.ptr S.length 0)] S_18 fun t88 S_19 =>
                        optK (binA .gtr t88 (.int .i64 1)) fun t89 =>
                        j_3 t89 S_19)) fun j_4 =>
                    ifK (AV.strip (AV.strip t78))
                    (j_4 (.tup []) S_15)
                    (optK (lloadA T29 y4 0) fun t82 =>
                      callK Ca 20 [(.ptr S.length 0), (AV.strip t23)] S_15 fun t81 S_16 =>
                      callK Ca 21 [(AV.strip t82), (AV.strip t23)] S_16 fun t84 S_17 =>
                      optK (binE .bool .neq t81 t84) fun t85 =>
                      j_4 t85 S_17)) fun j_5 =>
                  ifK (AV.strip (AV.strip t71))
                  (j_5 (.tup []) S_13)
                  (optK y4 fun _ =>
                    optK (lloadA T25 y4 2) fun t75 =>
                    optK (lenSlA (AV.strip t75)) fun t76 =>
                    callK Ca 19 [(.ptr S.length 0)] S_13 fun t73 S_14 =>
                    optK (binA .neq t73 t76) fun t77 =>
                    j_5 t77 S_14)) fun j_6 =>
                ifK (AV.strip (AV.strip t64))
                (j_6 (.tup []) S_11)
                (optK y4 fun _ =>
                  optK (lloadA T25 y4 1) fun t68 =>
                  optK (lenSlA (AV.strip t68)) fun t69 =>
                  callK Ca 18 [(.ptr S.length 0)] S_11 fun t66 S_12 =>
                  optK (binA .neq t66 t69) fun t70 =>
                  j_6 t70 S_12)) fun j_7 =>
              ifK (AV.strip t57)
              (j_7 (.tup []) S_9)
              (optK y4 fun _ =>
                optK (lloadA T25 y4 0) fun t61 =>
                optK (lenSlA (AV.strip t61)) fun t62 =>
                callK Ca 17 [(.ptr S.length 0)] S_9 fun t59 S_10 =>
                optK (binA .neq t59 t62) fun t63 =>
                j_7 t63 S_10)) fun j_8 =>
            optK (some b6) fun _ =>
            optK (lloadA T5 (some b6) 0) fun t25 =>
            optK (binA .rem (AV.strip t25) (.int .u8 3)) fun t26 =>
            optK (binA .eql t26 (.int .u8 0)) fun t36 =>
            ifK t36
            (callK Ca 11 [(.ptr S.length 0), (AV.strip t23)] S_2 fun t38 S_3 =>
              optK (lloadA T29 (bx 4) 0) fun t40 =>
              callK Ca 12 [(AV.strip t40), (AV.strip t23)] S_3 fun t42 S_4 =>
              optK (extractA t42 0) fun t43 =>
              optK (extractA (stripTup t42 0) 1) fun t44 =>
              optK (lstoreA T29 (bx 4) 0 t43) fun b4 =>
              j_8 t38 t44 (some b4) S_4)
            (optK (binA .eql t26 (.int .u8 1)) fun t46 =>
              ifK t46
              (callK Ca 13 [(.ptr S.length 0), (AV.strip t23)] S_2 fun t48 S_5 =>
                optK (lloadA T29 (bx 4) 0) fun t50 =>
                callK Ca 14 [(AV.strip t50), (AV.strip t23)] S_5 fun t52 S_6 =>
                optK (extractA t52 0) fun t53 =>
                optK (extractA (stripTup t52 0) 1) fun t54 =>
                optK (lstoreA T29 (bx 4) 0 t53) fun b4_2 =>
                j_8 t48 t54 (some b4_2) S_6)
              (callK Ca 15 [(.ptr S.length 0), (AV.strip t23)] S_2 fun t28 S_7 =>
                optK (lloadA T29 (bx 4) 0) fun t30 =>
                callK Ca 16 [(AV.strip t30), (AV.strip t23)] S_7 fun t32 S_8 =>
                optK (extractA t32 0) fun t33 =>
                optK (extractA (stripTup t32 0) 1) fun t34 =>
                optK (lstoreA T29 (bx 4) 0 t33) fun b4_3 =>
                j_8 t28 t34 (some b4_3) S_8)))
          (j_9 S_2)) (S ++ [.cells T27.zero])))
theorem G3_eq (Ca) (a0 S0 Q) : WF C Ca 3 (Drw C Ca 3) Try.f3 [a0] S0 Q = G3 Ca a0 S0 Q := by kernel_rfl
theorem G3_ok {w0 : World} {a0 : AV} {S0 : St} {Q : AV → St → Prop} (h : G3 (ACalls (En w0)) a0 S0 Q) : ACalls (En w0) 3 [a0] S0 Q := fn_ok w0 Try.func3 (by kernel_rfl) (by rw [G3_eq]; exact h)
def G4 (Ca : Nat → List AV → St → (AV → St → Prop) → Prop) (a0 a1 : AV) (S0 : St) (Q : AV → St → Prop) : Prop :=
    callK Ca 10 [] S0 fun t13 S =>
    optK (unA .not t13) fun t14 =>
    ifK t14
    (optK (some (.bool false)) fun rr =>
      Q rr S)
    (optK (convIntA .i64 (AV.strip a0)) fun t16 =>
      optK (binA .rem t16 (.int .i64 20)) fun t17 =>
      optK (convIntA .i64 (AV.strip a1)) fun t19 =>
      optK (binA .rem t19 (.int .i64 20)) fun t20 =>
      joinK (fun (S_4 : St) =>
        joinK (fun (S_7 : St) =>
          joinK (fun (S_13 : St) =>
            joinK (fun (S_26 : St) =>
              callK Ca 11 [(.ptr S.length 0), (.int .i64 5)] S_26 fun t93 S_27 =>
              joinK (fun (x96 : AV) (S_29 : St) =>
                optK (pickA (AV.strip t93) x96 (.bool false)) fun t97 =>
                joinK (fun (x100 : AV) (S_31 : St) =>
                  optK (pickA (AV.strip (AV.strip t97)) x100 (.bool false)) fun t101 =>
                  optK (some (AV.strip t101)) fun rr =>
                  Q rr S_31) fun j_9 =>
                ifK (AV.strip (AV.strip t97))
                (callK Ca 19 [(.ptr S.length 0)] S_29 fun t99 S_30 =>
                  optK (binA .eql t99 (.int .i64 0)) fun t100 =>
                  j_9 t100 S_30)
                (j_9 (.tup []) S_29)) fun j_10 =>
              ifK (AV.strip t93)
              (callK Ca 17 [(.ptr S.length 0)] S_27 fun t95 S_28 =>
                optK (binA .eql t95 (.int .i64 1)) fun t96 =>
                j_10 t96 S_28)
              (j_10 (.tup []) S_27)) fun j_11 =>
            loopQ ([(.int .i64 0)], []) (fun v_4 bx_4 => ([v_4 60], [])) (fun nx_4 v_4 bx_4 S_14 =>
              optK (binA .lss (v_4 60) (AV.strip t20)) fun t61 =>
              ifK t61
              (joinK (fun (S_25 : St) =>
                  optK (binA .add (v_4 60) (.int .i64 1)) fun t92 =>
                  nx_4 ([(AV.strip t92)], []) S_25) fun j_8 =>
                joinK (fun (S_17 : St) =>
                  optK (binA .add (.int .i64 100) (AV.strip (AV.strip (v_4 60)))) fun t74 =>
                  callK Ca 20 [(.ptr S.length 0), t74] S_17 fun t75 S_18 =>
                  optK (unA .not t75) fun t76 =>
                  joinK (fun (x81 : AV) (S_20 : St) =>
                    optK (pickA (AV.strip t76) x81 (.bool false)) fun t82 =>
                    joinK (fun (x84 : AV) (S_22 : St) =>
                      optK (pickA (AV.strip (AV.strip t82)) (.bool true) x84) fun t85 =>
                      joinK (fun (x90 : AV) (S_24 : St) =>
                        optK (pickA (AV.strip (AV.strip t85)) (.bool true) x90) fun t91 =>
                        ifK (AV.strip t91)
                        (optK (some (.bool false)) fun rr =>
                          Q rr S_24)
                        (j_8 S_24)) fun j_4 =>
                      ifK (AV.strip (AV.strip t85))
                      (j_4 (.tup []) S_22)
                      (optK (binA .add (.int .i64 100) (AV.strip (AV.strip (v_4 60)))) fun t88 =>
                        callK Ca 15 [(.ptr S.length 0), t88] S_22 fun t89 S_23 =>
                        optK (unA .not t89) fun t90 =>
                        j_4 t90 S_23)) fun j_5 =>
                    ifK (AV.strip (AV.strip t82))
                    (j_5 (.tup []) S_20)
                    (callK Ca 11 [(.ptr S.length 0), (.int .i64 5)] S_20 fun t84 S_21 =>
                      j_5 t84 S_21)) fun j_6 =>
                  ifK (AV.strip t76)
                  (optK (binA .add (.int .i64 100) (AV.strip (AV.strip (v_4 60)))) fun t79 =>
                    callK Ca 13 [(.ptr S.length 0), t79] S_18 fun t80 S_19 =>
                    optK (unA .not t80) fun t81 =>
                    j_6 t81 S_19)
                  (j_6 (.tup []) S_18)) fun j_7 =>
                optK (binA .add (AV.strip (AV.strip (v_4 60))) (.int .i64 1)) fun t64 =>
                loopQ ([t64], []) (fun v_5 bx_5 => ([v_5 12], [])) (fun nx_5 v_5 bx_5 S_15 =>
                  optK (binA .lss (AV.strip (v_5 12)) (AV.strip t20)) fun t67 =>
                  ifK t67
                  (optK (binA .add (.int .i64 100) (AV.strip (v_5 12))) fun t71 =>
                    callK Ca 13 [(.ptr S.length 0), t71] S_15 fun t72 S_16 =>
                    ifK t72
                    (optK (some (.bool false)) fun rr =>
                      Q rr S_16)
                    (optK (binA .add (AV.strip (v_5 12)) (.int .i64 1)) fun t69 =>
                      nx_5 ([t69], []) S_16))
                  (j_7 S_15)) S_14)
              (j_11 S_14)) S_13) fun j_12 =>
          loopQ ([(.int .i64 0)], []) (fun v_3 bx_3 => ([v_3 45], [])) (fun nx_3 v_3 bx_3 S_8 =>
            optK (binA .lss (v_3 45) (AV.strip t17)) fun t46 =>
            ifK t46
            (optK (binA .gtr (AV.strip t20) (.int .i64 0)) fun t49 =>
              joinK (fun (x51 : AV) (S_10 : St) =>
                optK (pickA (AV.strip t49) x51 (.bool false)) fun t52 =>
                joinK (fun (x56 : AV) (S_12 : St) =>
                  optK (pickA (AV.strip (AV.strip t52)) (.bool true) x56) fun t57 =>
                  ifK (AV.strip t57)
                  (optK (some (.bool false)) fun rr =>
                    Q rr S_12)
                  (optK (binA .add (v_3 45) (.int .i64 1)) fun t58 =>
                    nx_3 ([(AV.strip t58)], []) S_12)) fun j_2 =>
                ifK (AV.strip (AV.strip t52))
                (j_2 (.tup []) S_10)
                (callK Ca 15 [(.ptr S.length 0), (AV.strip (AV.strip (v_3 45)))] S_10 fun t55 S_11 =>
                  optK (unA .not t55) fun t56 =>
                  j_2 t56 S_11)) fun j_3 =>
              ifK (AV.strip t49)
              (callK Ca 13 [(.ptr S.length 0), (.int .i64 100)] S_8 fun t51 S_9 =>
                j_3 t51 S_9)
              (j_3 (.tup []) S_8))
            (j_12 S_8)) S_7) fun j_13 =>
        loopQ ([(.int .i64 0)], []) (fun v_2 bx_2 => ([v_2 30], [])) (fun nx_2 v_2 bx_2 S_5 =>
          optK (binA .lss (v_2 30) (AV.strip t20)) fun t31 =>
          ifK t31
          (optK (binA .add (.int .i64 100) (AV.strip (AV.strip (v_2 30)))) fun t34 =>
            callK Ca 13 [(.ptr S.length 0), t34] S_5 fun t35 S_6 =>
            optK (binA .eql (AV.strip t17) (.int .i64 0)) fun t37 =>
            joinK (fun (x40 : AV) =>
              optK (pickA (AV.strip t37) x40 (.bool false)) fun t41 =>
              optK (binE .bool .neq t35 (AV.strip t41)) fun t42 =>
              ifK t42
              (optK (some (.bool false)) fun rr =>
                Q rr S_6)
              (optK (binA .add (v_2 30) (.int .i64 1)) fun t43 =>
                nx_2 ([(AV.strip t43)], []) S_6)) fun j =>
            ifK (AV.strip t37)
            (optK (binA .eql (AV.strip (AV.strip (v_2 30))) (.int .i64 0)) fun t40 =>
              j t40)
            (j (.tup [])))
          (j_13 S_5)) S_4) fun j_14 =>
      loopQ ([(.int .i64 0)], []) (fun v bx => ([v 22], [])) (fun nx v bx S_2 =>
        optK (binA .lss (v 22) (AV.strip t17)) fun t23 =>
        ifK t23
        (callK Ca 11 [(.ptr S.length 0), (AV.strip (AV.strip (v 22)))] S_2 fun t26 S_3 =>
          optK (unA .not t26) fun t27 =>
          ifK t27
          (optK (some (.bool false)) fun rr =>
            Q rr S_3)
          (optK (binA .add (v 22) (.int .i64 1)) fun t28 =>
            nx ([(AV.strip t28)], []) S_3))
        (j_14 S_2)) (S ++ [.cells T27.zero]))
theorem G4_eq (Ca) (a0 a1 S0 Q) : WF C Ca 4 (Drw C Ca 4) Try.f4 [a0, a1] S0 Q = G4 Ca a0 a1 S0 Q := by kernel_rfl
theorem G4_ok {w0 : World} {a0 a1 : AV} {S0 : St} {Q : AV → St → Prop} (h : G4 (ACalls (En w0)) a0 a1 S0 Q) : ACalls (En w0) 4 [a0, a1] S0 Q := fn_ok w0 Try.func4 (by kernel_rfl) (by rw [G4_eq]; exact h)
def G5 (Ca : Nat → List AV → St → (AV → St → Prop) → Prop) (a0 : AV) (S0 : St) (Q : AV → St → Prop) : Prop :=
    callK Ca 22 [] S0 fun t11 S =>
    optK (unA .not t11) fun t12 =>
    ifK t12
    (optK (some (.bool false)) fun rr =>
      Q rr S)
    (optK (lenSlA (AV.strip a0)) fun t14 =>
      optK (binA .gtr t14 (.int .i64 70)) fun t15 =>
      ifK t15
      (optK (some (.bool true)) fun rr =>
        Q rr S)
      (joinK (fun (S_5 : St) =>
          callK Ca 24 [(AV.strip a0)] S_5 fun t32 S_6 =>
          callK Ca 25 [(AV.strip a0)] S_6 fun t34 S_7 =>
          optK (lenSlA (AV.strip t32)) fun t36 =>
          optK (lenSlA (AV.strip t34)) fun t38 =>
          optK (binA .neq t36 t38) fun t39 =>
          ifK t39
          (optK (some (.bool false)) fun rr =>
            Q rr S_7)
          (callK Ca 26 [(AV.strip t32)] S_7 fun t41 S_8 =>
            joinK (fun (x7_2 : AV) (S_10 : St) =>
              optK (lenSlA (AV.strip t41)) fun t88 =>
              optK (binA .eql (AV.strip x7_2) t88) fun t89 =>
              optK (some t89) fun rr =>
              Q rr S_10) fun j_5 =>
            optK (lenSlA (AV.strip t32)) fun t43 =>
            loopQ ([(.int .i64 0), (.int .i64 0)], []) (fun v_2 bx_2 => ([v_2 7, v_2 44], [])) (fun nx_2 v_2 bx_2 S_9 =>
              optK (binA .lss (v_2 44) t43) fun t45 =>
              ifK t45
              (joinK (fun (x7 : AV) =>
                  optK (binA .add (v_2 44) (.int .i64 1)) fun t85 =>
                  nx_2 ([x7, (AV.strip t85)], []) S_9) fun j_4 =>
                optK (idxSlA T48 (AV.strip t32) (v_2 44)) fun t47 =>
                optK (loadA T48 S_9 t47) fun t48 =>
                optK (lstoreA T48 (some T48.zero) 0 (AV.strip t48)) fun b10 =>
                optK (lloadA T48 (some b10) 0) fun t49 =>
                optK (idxSlA T49 (AV.strip t34) (AV.strip (AV.strip (v_2 44)))) fun t52 =>
                optK (loadA T49 S_9 t52) fun t53 =>
                optK (binE (.agg T48.zero) .neq (AV.strip t49) (AV.strip t53)) fun t54 =>
                ifK t54
                (optK (some (.bool false)) fun rr =>
                  Q rr S_9)
                (optK (binA .eql (AV.strip (AV.strip (v_2 44))) (.int .i64 0)) fun t56 =>
                  joinK (fun (x69 : AV) =>
                    optK (pickA (AV.strip t56) (.bool true) x69) fun t70 =>
                    ifK (AV.strip t70)
                    (optK (lenSlA (AV.strip t41)) fun t73 =>
                      optK (binA .geq (AV.strip (v_2 7)) t73) fun t74 =>
                      joinK (fun (x81 : AV) =>
                        optK (pickA (AV.strip t74) (.bool true) x81) fun t82 =>
                        ifK (AV.strip t82)
                        (optK (some (.bool false)) fun rr =>
                          Q rr S_9)
                        (optK (binA .add (AV.strip (v_2 7)) (.int .i64 1)) fun t84 =>
                          j_4 t84)) fun j_2 =>
                      ifK (AV.strip t74)
                      (j_2 (.tup []))
                      (optK (idxSlA T48 (AV.strip t41) (AV.strip (v_2 7))) fun t78 =>
                        optK (loadA T48 S_9 t78) fun t79 =>
                        optK (lloadA T48 (some b10) 0) fun t80 =>
                        optK (binE (.agg T48.zero) .neq (AV.strip t79) (AV.strip t80)) fun t81 =>
                        j_2 t81))
                    (j_4 (v_2 7))) fun j_3 =>
                  ifK (AV.strip t56)
                  (j_3 (.tup []))
                  (optK (binA .sub (AV.strip (AV.strip (v_2 44))) (.int .i64 1)) fun t60 =>
                    optK (idxSlA T49 (AV.strip t34) t60) fun t61 =>
                    optK (movePtr t61 0) fun t62 =>
                    optK (loadA T9 S_9 t62) fun t63 =>
                    optK (idxSlA T49 (AV.strip t34) (AV.strip (AV.strip (v_2 44)))) fun t66 =>
                    optK (movePtr t66 0) fun t67 =>
                    optK (loadA T9 S_9 t67) fun t68 =>
                    optK (binA .neq (AV.strip t63) (AV.strip t68)) fun t69 =>
                    j_3 t69)))
              (j_5 (v_2 7) S_9)) S_8)) fun j_6 =>
        optK (lenSlA (AV.strip a0)) fun t17 =>
        loopQ ([(.int .i64 0)], []) (fun v bx => ([v 18], [])) (fun nx v bx S_2 =>
          optK (binA .lss (v 18) t17) fun t19 =>
          ifK t19
          (optK (idxSlA T40 (AV.strip a0) (v 18)) fun t20 =>
            optK (loadA T40 S_2 t20) fun t21 =>
            optK (lenSlA (AV.strip (AV.strip t21))) fun t23 =>
            optK (binA .gtr t23 (.int .i64 60)) fun t24 =>
            joinK (fun (x28 : AV) (S_4 : St) =>
              optK (pickA (AV.strip t24) (.bool true) x28) fun t29 =>
              ifK (AV.strip t29)
              (optK (some (.bool true)) fun rr =>
                Q rr S_4)
              (optK (binA .add (v 18) (.int .i64 1)) fun t30 =>
                nx ([(AV.strip t30)], []) S_4)) fun j =>
            ifK (AV.strip t24)
            (j (.tup []) S_2)
            (callK Ca 23 [(AV.strip (AV.strip t21))] S_2 fun t27 S_3 =>
              optK (unA .not t27) fun t28 =>
              j t28 S_3))
          (j_6 S_2)) S))
theorem G5_eq (Ca) (a0 S0 Q) : WF C Ca 5 (Drw C Ca 5) Try.f5 [a0] S0 Q = G5 Ca a0 S0 Q := by kernel_rfl
theorem G5_ok {w0 : World} {a0 : AV} {S0 : St} {Q : AV → St → Prop} (h : G5 (ACalls (En w0)) a0 S0 Q) : ACalls (En w0) 5 [a0] S0 Q := fn_ok w0 Try.func5 (by kernel_rfl) (by rw [G5_eq]; exact h)
def G6 (Ca : Nat → List AV → St → (AV → St → Prop) → Prop) (a0 a1 : AV) (S0 : St) (Q : AV → St → Prop) : Prop :=
    callK Ca 22 [] S0 fun t14 S =>
    optK (unA .not t14) fun t15 =>
    ifK t15
    (optK (some (.bool false)) fun rr =>
      Q rr S)
    (optK (lenSlA (AV.strip a0)) fun t17 =>
      optK (binA .gtr t17 (.int .i64 70)) fun t18 =>
      ifK t18
      (optK (some (.bool true)) fun rr =>
        Q rr S)
      (joinK (fun (S_5 : St) =>
          optK (convIntA .i64 (AV.strip a1)) fun t35 =>
          optK (lenSlA (AV.strip a0)) fun t37 =>
          optK (binA .add t37 (.int .i64 1)) fun t38 =>
          optK (binA .rem t35 t38) fun t39 =>
          optK (cutA T40 (AV.strip a0) none (some (AV.strip t39)) none) fun t43 =>
          optK (cutA T40 (AV.strip a0) (some (AV.strip t39)) none none) fun t49 =>
          callK Ca 24 [t43] S_5 fun t44 S_6 =>
          optK (calleeA (AV.strip (.fn 27 [] [])) [t44]) fun a =>
          Ca a.1 a.2 S_6 fun t45 S_7 =>
          callK Ca 24 [t49] S_7 fun t50 S_8 =>
          optK (calleeA (AV.strip (.fn 27 [] [])) [t50]) fun a_2 =>
          Ca a_2.1 a_2.2 S_8 fun t51 S_9 =>
          optK (elemVals 1 [(AV.strip t45), (AV.strip t51)]) fun e55 =>
          callK Ca 24 [(.vs 1 e55 .full)] S_9 fun t56 S_10 =>
          optK (calleeA (AV.strip (.fn 27 [] [])) [t56]) fun a_3 =>
          Ca a_3.1 a_3.2 S_10 fun t57 S_11 =>
          callK Ca 24 [(AV.strip a0)] S_11 fun t60 S_12 =>
          optK (calleeA (AV.strip (.fn 27 [] [])) [t60]) fun a_4 =>
          Ca a_4.1 a_4.2 S_12 fun t61 S_13 =>
          optK (lenSlA (AV.strip t57)) fun t63 =>
          optK (lenSlA (AV.strip t61)) fun t65 =>
          optK (binA .neq t63 t65) fun t66 =>
          joinK (fun (x70 : AV) (S_15 : St) =>
            optK (pickA (AV.strip t66) (.bool true) x70) fun t71 =>
            ifK (AV.strip t71)
            (optK (some (.bool false)) fun rr =>
              Q rr S_15)
            (joinK (fun (S_17 : St) =>
                optK (some (.bool true)) fun rr =>
                Q rr S_17) fun j_3 =>
              optK (lenSlA (AV.strip t57)) fun t73 =>
              loopQ ([(.int .i64 0)], []) (fun v_2 bx_2 => ([v_2 74], [])) (fun nx_2 v_2 bx_2 S_16 =>
                optK (binA .lss (v_2 74) t73) fun t75 =>
                ifK t75
                (optK (idxSlA T9 (AV.strip t57) (AV.strip (AV.strip (v_2 74)))) fun t79 =>
                  optK (loadA T9 S_16 t79) fun t80 =>
                  optK (idxSlA T9 (AV.strip t61) (AV.strip (AV.strip (v_2 74)))) fun t83 =>
                  optK (loadA T9 S_16 t83) fun t84 =>
                  optK (binA .neq (AV.strip t80) (AV.strip t84)) fun t85 =>
                  ifK t85
                  (optK (some (.bool false)) fun rr =>
                    Q rr S_16)
                  (optK (binA .add (v_2 74) (.int .i64 1)) fun t86 =>
                    nx_2 ([(AV.strip t86)], []) S_16))
                (j_3 S_16)) S_15)) fun j_2 =>
          ifK (AV.strip t66)
          (j_2 (.tup []) S_13)
          (callK Ca 23 [(AV.strip t61)] S_13 fun t69 S_14 =>
            optK (unA .not t69) fun t70 =>
            j_2 t70 S_14)) fun j_4 =>
        optK (lenSlA (AV.strip a0)) fun t20 =>
        loopQ ([(.int .i64 0)], []) (fun v bx => ([v 21], [])) (fun nx v bx S_2 =>
          optK (binA .lss (v 21) t20) fun t22 =>
          ifK t22
          (optK (idxSlA T40 (AV.strip a0) (v 21)) fun t23 =>
            optK (loadA T40 S_2 t23) fun t24 =>
            optK (lenSlA (AV.strip (AV.strip t24))) fun t26 =>
            optK (binA .gtr t26 (.int .i64 60)) fun t27 =>
            joinK (fun (x31 : AV) (S_4 : St) =>
              optK (pickA (AV.strip t27) (.bool true) x31) fun t32 =>
              ifK (AV.strip t32)
              (optK (some (.bool true)) fun rr =>
                Q rr S_4)
              (optK (binA .add (v 21) (.int .i64 1)) fun t33 =>
                nx ([(AV.strip t33)], []) S_4)) fun j =>
            ifK (AV.strip t27)
            (j (.tup []) S_2)
            (callK Ca 23 [(AV.strip (AV.strip t24))] S_2 fun t30 S_3 =>
              optK (unA .not t30) fun t31 =>
              j t31 S_3))
          (j_4 S_2)) S))
theorem G6_eq (Ca) (a0 a1 S0 Q) : WF C Ca 6 (Drw C Ca 6) Try.f6 [a0, a1] S0 Q = G6 Ca a0 a1 S0 Q := by kernel_rfl
theorem G6_ok {w0 : World} {a0 a1 : AV} {S0 : St} {Q : AV → St → Prop} (h : G6 (ACalls (En w0)) a0 a1 S0 Q) : ACalls (En w0) 6 [a0, a1] S0 Q := fn_ok w0 Try.func6 (by kernel_rfl) (by rw [G6_eq]; exact h)
def G7 (Ca : Nat → List AV → St → (AV → St → Prop) → Prop) (a0 a1 : AV) (S0 : St) (Q : AV → St → Prop) : Prop :=
    callK Ca 28 [] S0 fun t5 S =>
    optK (unA .not t5) fun t6 =>
    ifK t6
    (optK (some (.bool false)) fun rr =>
      Q rr S)
    (callK Ca 29 [(AV.strip a1)] S fun t8 S_2 =>
      joinK (fun (x16 : AV) (S_5 : St) =>
        optK (pickA (AV.strip t8) (.bool true) x16) fun t17 =>
        optK (some (AV.strip t17)) fun rr =>
        Q rr S_5) fun j =>
      ifK (AV.strip t8)
      (j (.tup []) S_2)
      (callK Ca 30 [(AV.strip a0), (AV.strip a1)] S_2 fun t12 S_3 =>
        callK Ca 31 [(AV.strip a0), (AV.strip a1)] S_3 fun t15 S_4 =>
        optK (binE .bool .eql t12 t15) fun t16 =>
        j t16 S_4))
theorem G7_eq (Ca) (a0 a1 S0 Q) : WF C Ca 7 (Drw C Ca 7) Try.f7 [a0, a1] S0 Q = G7 Ca a0 a1 S0 Q := by kernel_rfl
theorem G7_ok {w0 : World} {a0 a1 : AV} {S0 : St} {Q : AV → St → Prop} (h : G7 (ACalls (En w0)) a0 a1 S0 Q) : ACalls (En w0) 7 [a0, a1] S0 Q := fn_ok w0 Try.func7 (by kernel_rfl) (by rw [G7_eq]; exact h)
def G8 (Ca : Nat → List AV → St → (AV → St → Prop) → Prop) (a0 a1 a2 : AV) (S0 : St) (Q : AV → St → Prop) : Prop :=
    optK (boxA T57 a2) fun c5 =>
    callK Ca 28 [] S0 fun t7 S =>
    optK (unA .not t7) fun t8 =>
    ifK t8
    (optK (some (.bool false)) fun rr =>
      Q rr S)
    (callK Ca 29 [(AV.strip a1)] S fun t10 S_2 =>
      joinK (fun (x15 : AV) (S_4 : St) =>
        optK (pickA (AV.strip t10) (.bool true) x15) fun t16 =>
        joinK (fun (x19 : AV) =>
          optK (pickA (AV.strip (AV.strip t16)) (.bool true) x19) fun t20 =>
          ifK (AV.strip t20)
          (optK (some (.bool true)) fun rr =>
            Q rr S_4)
          (optK (some c5) fun _ =>
            optK (lloadA T3 (some c5) 0) fun t24 =>
            optK (some c5) fun _ =>
            optK (lloadA T3 (some c5) 1) fun t26 =>
            optK (some c5) fun _ =>
            optK (lloadA T3 (some c5) 0) fun t31 =>
            optK (some c5) fun _ =>
            optK (lloadA T3 (some c5) 1) fun t33 =>
            callK Ca 32 [(AV.strip a0), (AV.strip a1), (AV.strip t24), (AV.strip t26)] S_4 fun t27 S_5 =>
            callK Ca 33 [(AV.strip a0), (AV.strip a1), (AV.strip t31), (AV.strip t33)] S_5 fun t34 S_6 =>
            optK (binA .eql t27 t34) fun t35 =>
            optK (some t35) fun rr =>
            Q rr S_6)) fun j =>
        ifK (AV.strip (AV.strip t16))
        (j (.tup []))
        (optK (binA .gtr (AV.strip a0) (.int .i64 3000)) fun t19 =>
          j t19)) fun j_2 =>
      ifK (AV.strip t10)
      (j_2 (.tup []) S_2)
      (callK Ca 31 [(AV.strip a0), (AV.strip a1)] S_2 fun t14 S_3 =>
        optK (unA .not t14) fun t15 =>
        j_2 t15 S_3))
theorem G8_eq (Ca) (a0 a1 a2 S0 Q) : WF C Ca 8 (Drw C Ca 8) Try.f8 [a0, a1, a2] S0 Q = G8 Ca a0 a1 a2 S0 Q := by kernel_rfl
theorem G8_ok {w0 : World} {a0 a1 a2 : AV} {S0 : St} {Q : AV → St → Prop} (h : G8 (ACalls (En w0)) a0 a1 a2 S0 Q) : ACalls (En w0) 8 [a0, a1, a2] S0 Q := fn_ok w0 Try.func8 (by kernel_rfl) (by rw [G8_eq]; exact h)
def G9 (Ca : Nat → List AV → St → (AV → St → Prop) → Prop) (a0 : AV) (S0 : St) (Q : AV → St → Prop) : Prop :=
    callK Ca 28 [] S0 fun t8 S =>
    optK (unA .not t8) fun t9 =>
    ifK t9
    (optK (some (.bool false)) fun rr =>
      Q rr S)
    (optK (lenStrA (AV.strip a0)) fun t11 =>
      optK (binA .gtr t11 (.int .i64 1000)) fun t12 =>
      ifK t12
      (optK (some (.bool true)) fun rr =>
        Q rr S)
      (callK Ca 34 [(AV.strip a0)] S fun t14 S_2 =>
        joinK (fun (S_7 : St) =>
          optK (lenStrA (AV.strip a0)) fun t45 =>
          callK Ca 31 [t45, (AV.strip t14)] S_7 fun t47 S_8 =>
          joinK (fun (x56 : AV) (S_10 : St) =>
            optK (pickA (AV.strip t47) x56 (.bool false)) fun t57 =>
            optK (some (AV.strip t57)) fun rr =>
            Q rr S_10) fun j_3 =>
          ifK (AV.strip t47)
          (optK (lenStrA (AV.strip a0)) fun t50 =>
            optK (lenStrA (AV.strip a0)) fun t53 =>
            callK Ca 32 [t50, (AV.strip t14), (.int .i64 0), t53] S_8 fun t54 S_9 =>
            optK (binA .eql t54 (AV.strip a0)) fun t56 =>
            j_3 t56 S_9)
          (j_3 (.tup []) S_8)) fun j_4 =>
        optK (lenSlA (AV.strip t14)) fun t16 =>
        loopQ ([(.int .i64 (-1)), (.int .i64 0)], []) (fun v bx => ([v 4, v 17], [])) (fun nx v bx S_3 =>
          optK (binA .lss (v 17) t16) fun t18 =>
          ifK t18
          (joinK (fun (x4 : AV) (S_6 : St) =>
              optK (binA .add (v 17) (.int .i64 1)) fun t43 =>
              nx ([x4, (AV.strip t43)], []) S_6) fun j_2 =>
            optK (idxSlA T62 (AV.strip t14) (v 17)) fun t19 =>
            optK (loadA T62 S_3 t19) fun t20 =>
            optK (lstoreA T62 (some T62.zero) 0 (AV.strip t20)) fun b6 =>
            optK (some b6) fun _ =>
            optK (lloadA T3 (some b6) 0) fun t22 =>
            optK (binA .leq (AV.strip t22) (AV.strip (v 4))) fun t24 =>
            ifK t24
            (optK (some (.bool false)) fun rr =>
              Q rr S_3)
            (joinK (fun (y6 : Option (List AV)) (S_5 : St) =>
                optK y6 fun _ =>
                optK (lloadA T3 y6 0) fun t38 =>
                optK y6 fun _ =>
                optK (lloadA T9 y6 1) fun t40 =>
                optK (lenStrA (AV.strip t40)) fun t41 =>
                optK (binA .add (AV.strip t38) t41) fun t42 =>
                j_2 t42 S_5) fun j =>
              optK (some b6) fun _ =>
              optK (lloadA T9 (some b6) 1) fun t26 =>
              optK (lenStrA (AV.strip t26)) fun t27 =>
              loopQ ([(.int .i64 0)], [(some b6)]) (fun v_2 bx_2 => ([v_2 28], [bx_2 6])) (fun nx_2 v_2 bx_2 S_4 =>
                optK (binA .lss (v_2 28) t27) fun t29 =>
                ifK t29
                (optK (bx_2 6) fun _ =>
                  optK (lloadA T9 (bx_2 6) 1) fun t32 =>
                  optK (charA (AV.strip t32) (AV.strip (AV.strip (v_2 28)))) fun t34 =>
                  optK (binA .eql t34 (.int .u8 0)) fun t35 =>
                  ifK t35
                  (optK (some (.bool false)) fun rr =>
                    Q rr S_4)
                  (optK (binA .add (v_2 28) (.int .i64 1)) fun t36 =>
                    nx_2 ([(AV.strip t36)], [(bx_2 6)]) S_4))
                (j (bx_2 6) S_4)) S_3))
          (j_4 S_3)) S_2))
theorem G9_eq (Ca) (a0 S0 Q) : WF C Ca 9 (Drw C Ca 9) Try.f9 [a0] S0 Q = G9 Ca a0 S0 Q := by kernel_rfl
theorem G9_ok {w0 : World} {a0 : AV} {S0 : St} {Q : AV → St → Prop} (h : G9 (ACalls (En w0)) a0 S0 Q) : ACalls (En w0) 9 [a0] S0 Q := fn_ok w0 Try.func9 (by kernel_rfl) (by rw [G9_eq]; exact h)
def G10 (Ca : Nat → List AV → St → (AV → St → Prop) → Prop) (S0 : St) (Q : AV → St → Prop) : Prop :=
    callK Ca 11 [(.ptr S0.length 0), (.int .i64 1)] (S0 ++ [.cells T27.zero]) fun t7 S =>
    callK Ca 13 [(.ptr S0.length 0), (.int .i64 2)] S fun t8 S_2 =>
    callK Ca 11 [(.ptr S0.length 0), (.int .i64 3)] S_2 fun t9 S_3 =>
    callK Ca 15 [(.ptr S0.length 0), (.int .i64 1)] S_3 fun t10 S_4 =>
    callK Ca 13 [(.ptr S0.length 0), (.int .i64 2)] S_4 fun t11 S_5 =>
    joinK (fun (x15 : AV) =>
      optK (pickA (AV.strip (AV.strip t7)) x15 (.bool false)) fun t16 =>
      joinK (fun (x19 : AV) =>
        optK (pickA (AV.strip (AV.strip t16)) x19 (.bool false)) fun t20 =>
        joinK (fun (x22 : AV) =>
          optK (pickA (AV.strip (AV.strip t20)) x22 (.bool false)) fun t23 =>
          joinK (fun (x25 : AV) =>
            optK (pickA (AV.strip (AV.strip t23)) x25 (.bool false)) fun t26 =>
            joinK (fun (x28 : AV) (S_7 : St) =>
              optK (pickA (AV.strip (AV.strip t26)) x28 (.bool false)) fun t29 =>
              joinK (fun (x32 : AV) (S_9 : St) =>
                optK (pickA (AV.strip (AV.strip t29)) x32 (.bool false)) fun t33 =>
                joinK (fun (x36 : AV) (S_11 : St) =>
                  optK (pickA (AV.strip (AV.strip t33)) x36 (.bool false)) fun t37 =>
                  joinK (fun (x40 : AV) (S_13 : St) =>
                    optK (pickA (AV.strip (AV.strip t37)) x40 (.bool false)) fun t41 =>
                    optK (some (AV.strip t41)) fun rr =>
                    Q rr S_13) fun j =>
                  ifK (AV.strip (AV.strip t37))
                  (callK Ca 17 [(.ptr S0.length 0)] S_11 fun t39 S_12 =>
                    optK (binA .eql t39 (.int .i64 0)) fun t40 =>
                    j t40 S_12)
                  (j (.tup []) S_11)) fun j_2 =>
                ifK (AV.strip (AV.strip t33))
                (callK Ca 19 [(.ptr S0.length 0)] S_9 fun t35 S_10 =>
                  optK (binA .eql t35 (.int .i64 0)) fun t36 =>
                  j_2 t36 S_10)
                (j_2 (.tup []) S_9)) fun j_3 =>
              ifK (AV.strip (AV.strip t29))
              (callK Ca 18 [(.ptr S0.length 0)] S_7 fun t31 S_8 =>
                optK (binA .eql t31 (.int .i64 1)) fun t32 =>
                j_3 t32 S_8)
              (j_3 (.tup []) S_7)) fun j_4 =>
            ifK (AV.strip (AV.strip t26))
            (callK Ca 20 [(.ptr S0.length 0), (.int .i64 2)] S_5 fun t28 S_6 =>
              j_4 t28 S_6)
            (j_4 (.tup []) S_5)) fun j_5 =>
          ifK (AV.strip (AV.strip t23))
          (j_5 (AV.strip t11))
          (j_5 (.tup []))) fun j_6 =>
        ifK (AV.strip (AV.strip t20))
        (j_6 (AV.strip t10))
        (j_6 (.tup []))) fun j_7 =>
      ifK (AV.strip (AV.strip t16))
      (optK (unA .not (AV.strip t9)) fun t19 =>
        j_7 t19)
      (j_7 (.tup []))) fun j_8 =>
    ifK (AV.strip (AV.strip t7))
    (optK (unA .not (AV.strip t8)) fun t15 =>
      j_8 t15)
    (j_8 (.tup []))
theorem G10_eq (Ca) (S0 Q) : WF C Ca 10 (Drw C Ca 10) Try.f10 [] S0 Q = G10 Ca  S0 Q := by kernel_rfl
theorem G10_ok {w0 : World} {S0 : St} {Q : AV → St → Prop} (h : G10 (ACalls (En w0))  S0 Q) : ACalls (En w0) 10 [] S0 Q := fn_ok w0 Try.func10 (by kernel_rfl) (by rw [G10_eq]; exact h)
def G11 (Ca : Nat → List AV → St → (AV → St → Prop) → Prop) (a0 a1 : AV) (S0 : St) (Q : AV → St → Prop) : Prop :=
    optK (nilA (AV.strip a0)) fun t6 =>
    optK (movePtr t6 1) fun t7 =>
    optK (loadA T3 S0 t7) fun t8 =>
    optK (binA .neq (AV.strip t8) (.int .i64 0)) fun t9 =>
    joinK (fun (x16 : AV) =>
      optK (pickA (AV.strip t9) (.bool true) x16) fun t17 =>
      joinK (fun (x21 : AV) (S_2 : St) =>
        optK (pickA (AV.strip (AV.strip t17)) (.bool true) x21) fun t22 =>
        ifK (AV.strip t22)
        (optK (some (.bool false)) fun rr =>
          Q rr S_2)
        (joinK (fun (S_4 : St) =>
            optK (nilA (AV.strip a0)) fun t33 =>
            optK (movePtr t33 0) fun t34 =>
            optK (loadA T24 S_4 t34) fun t35 =>
            optK (buildA T65 1 []) fun t37 =>
            optK (mapUpdateA .int S_4 (AV.strip t35) (AV.strip a1) t37) fun S_5 =>
            optK (some (.bool true)) fun rr =>
            Q rr S_5) fun j_3 =>
          optK (nilA (AV.strip a0)) fun t24 =>
          optK (movePtr t24 0) fun t25 =>
          optK (loadA T24 S_2 t25) fun t26 =>
          optK (binE .map .eql (AV.strip t26) (.map none)) fun t27 =>
          ifK t27
          (optK (nilA (AV.strip a0)) fun t30 =>
            optK (movePtr t30 0) fun t31 =>
            optK (storeA T24 (S_2 ++ [.map []]) t31 (.map (some S_2.length))) fun S_3 =>
            j_3 S_3)
          (j_3 S_2))) fun j =>
      ifK (AV.strip (AV.strip t17))
      (j (.tup []) S0)
      (callK Ca 20 [(AV.strip a0), (AV.strip a1)] S0 fun t21 S =>
        j t21 S)) fun j_2 =>
    ifK (AV.strip t9)
    (j_2 (.tup []))
    (optK (nilA (AV.strip a0)) fun t12 =>
      optK (movePtr t12 2) fun t13 =>
      optK (loadA T25 S0 t13) fun t14 =>
      optK (lenSlA (AV.strip t14)) fun t15 =>
      optK (binA .gtr t15 (.int .i64 0)) fun t16 =>
      j_2 t16)
theorem G11_eq (Ca) (a0 a1 S0 Q) : WF C Ca 11 (Drw C Ca 11) Try.f11 [a0, a1] S0 Q = G11 Ca a0 a1 S0 Q := by kernel_rfl
theorem G11_ok {w0 : World} {a0 a1 : AV} {S0 : St} {Q : AV → St → Prop} (h : G11 (ACalls (En w0)) a0 a1 S0 Q) : ACalls (En w0) 11 [a0, a1] S0 Q := fn_ok w0 Try.func11 (by kernel_rfl) (by rw [G11_eq]; exact h)
def G12 (Ca : Nat → List AV → St → (AV → St → Prop) → Prop) (a0 a1 : AV) (S0 : St) (Q : AV → St → Prop) : Prop :=
    optK (boxA T29 a0) fun c2 =>
    optK (lloadA T29 (some c2) 0) fun t6 =>
    callK Ca 21 [(AV.strip t6), (AV.strip a1)] S0 fun t8 S =>
    joinK (fun (x13 : AV) =>
      optK (pickA (AV.strip t8) (.bool true) x13) fun t14 =>
      joinK (fun (x19 : AV) =>
        optK (pickA (AV.strip (AV.strip t14)) (.bool true) x19) fun t20 =>
        ifK (AV.strip t20)
        (optK (lloadA T29 (some c2) 0) fun t21 =>
          optK (lstoreA T29 (some T29.zero) 0 (AV.strip t21)) fun b4 =>
          optK ((lloadA T29 (some b4) 0).map AV.strip) fun r4 =>
          optK (some (.bool false)) fun r5 =>
          Q (.tup [(AV.flat r4), (AV.flat r5)]) S)
        (optK (elemVals 1 []) fun e22 =>
          optK (some c2) fun _ =>
          optK (lloadA T25 (some c2) 0) fun t24 =>
          optK (appendA T3 S (.vs 1 e22 .full) (AV.strip t24)) fun t25 =>
          optK (elemVals 1 [(AV.strip a1)]) fun e27 =>
          optK (appendA T3 S t25 (.vs 1 e27 .full)) fun t28 =>
          optK (some c2) fun _ =>
          optK (lstoreA T25 (some c2) 0 t28) fun b2 =>
          optK (lloadA T29 (some b2) 0) fun t30 =>
          optK (lstoreA T29 (some T29.zero) 0 (AV.strip t30)) fun b4_2 =>
          optK ((lloadA T29 (some b4_2) 0).map AV.strip) fun r4_2 =>
          optK (some (.bool true)) fun r5_2 =>
          Q (.tup [(AV.flat r4_2), (AV.flat r5_2)]) S)) fun j =>
      ifK (AV.strip (AV.strip t14))
      (j (.tup []))
      (optK (some c2) fun _ =>
        optK (lloadA T25 (some c2) 2) fun t17 =>
        optK (lenSlA (AV.strip t17)) fun t18 =>
        optK (binA .gtr t18 (.int .i64 0)) fun t19 =>
        j t19)) fun j_2 =>
    ifK (AV.strip t8)
    (j_2 (.tup []))
    (optK (some c2) fun _ =>
      optK (lloadA T25 (some c2) 1) fun t11 =>
      optK (lenSlA (AV.strip t11)) fun t12 =>
      optK (binA .gtr t12 (.int .i64 0)) fun t13 =>
      j_2 t13)
theorem G12_eq (Ca) (a0 a1 S0 Q) : WF C Ca 12 (Drw C Ca 12) Try.f12 [a0, a1] S0 Q = G12 Ca a0 a1 S0 Q := by kernel_rfl
theorem G12_ok {w0 : World} {a0 a1 : AV} {S0 : St} {Q : AV → St → Prop} (h : G12 (ACalls (En w0)) a0 a1 S0 Q) : ACalls (En w0) 12 [a0, a1] S0 Q := fn_ok w0 Try.func12 (by kernel_rfl) (by rw [G12_eq]; exact h)
def G13 (Ca : Nat → List AV → St → (AV → St → Prop) → Prop) (a0 a1 : AV) (S0 : St) (Q : AV → St → Prop) : Prop :=
    callK Ca 20 [(AV.strip a0), (AV.strip a1)] S0 fun t8 S =>
    ifK t8
    (optK (some (.bool false)) fun rr =>
      Q rr S)
    (callK Ca 35 [(AV.strip a0), (AV.strip a1)] S fun t11 S_2 =>
      joinK (fun (x5 : AV) (S_4 : St) =>
        optK (binA .gtr (AV.strip x5) (.int .i64 0)) fun t30 =>
        joinK (fun (x36 : AV) =>
          optK (pickA (AV.strip t30) (.bool true) x36) fun t37 =>
          joinK (fun (x44 : AV) =>
            optK (pickA (AV.strip (AV.strip t37)) (.bool true) x44) fun t45 =>
            ifK (AV.strip t45)
            (optK (some (.bool false)) fun rr =>
              Q rr S_4)
            (optK (nilA (AV.strip a0)) fun t48 =>
              optK (movePtr t48 2) fun t49 =>
              optK (loadA T25 S_4 t49) fun t50 =>
              optK (cutA T3 (AV.strip0 t50) (some (.int .i64 1)) none none) fun t51 =>
              optK (nilA (AV.strip a0)) fun t52 =>
              optK (movePtr t52 2) fun t53 =>
              optK (storeA T25 (stripMem S_4 t49) t53 t51) fun S_5 =>
              optK (binA .add (AV.strip a1) (.int .i64 1)) fun t56 =>
              optK (nilA (AV.strip a0)) fun t57 =>
              optK (movePtr t57 1) fun t58 =>
              optK (storeA T3 S_5 t58 t56) fun S_6 =>
              optK (some (.bool true)) fun rr =>
              Q rr S_6)) fun j =>
          ifK (AV.strip (AV.strip t37))
          (j (.tup []))
          (optK (nilA (AV.strip a0)) fun t40 =>
            optK (movePtr t40 0) fun t41 =>
            optK (loadA T24 S_4 t41) fun t42 =>
            optK (lenMapA S_4 (AV.strip t42)) fun t43 =>
            optK (binA .gtr t43 (.int .i64 0)) fun t44 =>
            j t44)) fun j_2 =>
        ifK (AV.strip t30)
        (j_2 (.tup []))
        (optK (nilA (AV.strip a0)) fun t33 =>
          optK (movePtr t33 1) fun t34 =>
          optK (loadA T3 S_4 t34) fun t35 =>
          optK (binA .neq (AV.strip t35) (.int .i64 0)) fun t36 =>
          j_2 t36)) fun j_3 =>
      optK (binA .lss (AV.strip t11) (.int .i64 0)) fun t13 =>
      ifK t13
      (optK (nilA (AV.strip a0)) fun t15 =>
        optK (movePtr t15 2) fun t16 =>
        optK (loadA T25 S_2 t16) fun t17 =>
        optK (lenSlA (AV.strip t17)) fun t18 =>
        optK (nilA (AV.strip a0)) fun t21 =>
        optK (movePtr t21 2) fun t22 =>
        optK (loadA T25 S_2 t22) fun t23 =>
        optK (elemVals 1 [(AV.strip a1)]) fun e25 =>
        optK (appendA T3 (stripMem S_2 t22) (AV.strip0 t23) (.vs 1 e25 .full)) fun t26 =>
        optK (nilA (AV.strip a0)) fun t27 =>
        optK (movePtr t27 2) fun t28 =>
        optK (storeA T25 (stripMem S_2 t22) t28 t26) fun S_3 =>
        j_3 t18 S_3)
      (j_3 t11 S_2))
theorem G13_eq (Ca) (a0 a1 S0 Q) : WF C Ca 13 (Drw C Ca 13) Try.f13 [a0, a1] S0 Q = G13 Ca a0 a1 S0 Q := by kernel_rfl
theorem G13_ok {w0 : World} {a0 a1 : AV} {S0 : St} {Q : AV → St → Prop} (h : G13 (ACalls (En w0)) a0 a1 S0 Q) : ACalls (En w0) 13 [a0, a1] S0 Q := fn_ok w0 Try.func13 (by kernel_rfl) (by rw [G13_eq]; exact h)
def G14 (Ca : Nat → List AV → St → (AV → St → Prop) → Prop) (a0 a1 : AV) (S0 : St) (Q : AV → St → Prop) : Prop :=
    optK (boxA T29 a0) fun c2 =>
    optK (lloadA T29 (some c2) 0) fun t6 =>
    callK Ca 21 [(AV.strip t6), (AV.strip a1)] S0 fun t8 S =>
    ifK t8
    (optK (lloadA T29 (some c2) 0) fun t9 =>
      optK (lstoreA T29 (some T29.zero) 0 (AV.strip t9)) fun b4 =>
      optK ((lloadA T29 (some b4) 0).map AV.strip) fun r4 =>
      optK (some (.bool false)) fun r5 =>
      Q (.tup [(AV.flat r4), (AV.flat r5)]) S)
    (joinK (fun (y2 : Option (List AV)) (S_3 : St) =>
        optK y2 fun _ =>
        optK (lloadA T25 y2 2) fun t24 =>
        optK (idxSlA T3 (AV.strip t24) (.int .i64 0)) fun t25 =>
        optK (loadA T3 S_3 t25) fun t26 =>
        optK (binA .neq (AV.strip t26) (AV.strip a1)) fun t28 =>
        joinK (fun (x33 : AV) =>
          optK (pickA (AV.strip t28) (.bool true) x33) fun t34 =>
          joinK (fun (x39 : AV) =>
            optK (pickA (AV.strip (AV.strip t34)) (.bool true) x39) fun t40 =>
            ifK (AV.strip t40)
            (optK (lloadA T29 y2 0) fun t41 =>
              optK (lstoreA T29 (some T29.zero) 0 (AV.strip t41)) fun b4_2 =>
              optK ((lloadA T29 (some b4_2) 0).map AV.strip) fun r4_2 =>
              optK (some (.bool false)) fun r5_2 =>
              Q (.tup [(AV.flat r4_2), (AV.flat r5_2)]) S_3)
            (optK y2 fun _ =>
              optK (lloadA T25 y2 2) fun t43 =>
              callK Ca 37 [(AV.strip t43), (AV.strip a1)] S_3 fun t45 S_4 =>
              optK y2 fun _ =>
              optK (lstoreA T25 y2 2 t45) fun b2_2 =>
              optK (elemVals 1 [(AV.strip a1)]) fun e48 =>
              optK (some b2_2) fun _ =>
              optK (lstoreA T25 (some b2_2) 1 (.vs 1 e48 .full)) fun b2_3 =>
              optK (lloadA T29 (some b2_3) 0) fun t50 =>
              optK (lstoreA T29 (some T29.zero) 0 (AV.strip t50)) fun b4_3 =>
              optK ((lloadA T29 (some b4_3) 0).map AV.strip) fun r4_3 =>
              optK (some (.bool true)) fun r5_3 =>
              Q (.tup [(AV.flat r4_3), (AV.flat r5_3)]) S_4)) fun j =>
          ifK (AV.strip (AV.strip t34))
          (j (.tup []))
          (optK y2 fun _ =>
            optK (lloadA T25 y2 1) fun t37 =>
            optK (lenSlA (AV.strip t37)) fun t38 =>
            optK (binA .gtr t38 (.int .i64 0)) fun t39 =>
            j t39)) fun j_2 =>
        ifK (AV.strip t28)
        (j_2 (.tup []))
        (optK y2 fun _ =>
          optK (lloadA T25 y2 0) fun t31 =>
          optK (lenSlA (AV.strip t31)) fun t32 =>
          optK (binA .gtr t32 (.int .i64 0)) fun t33 =>
          j_2 t33)) fun j_3 =>
      optK (some c2) fun _ =>
      optK (lloadA T25 (some c2) 2) fun t11 =>
      callK Ca 36 [(AV.strip t11), (AV.strip a1)] S fun t13 S_2 =>
      optK (unA .not t13) fun t14 =>
      ifK t14
      (optK (elemVals 1 []) fun e15 =>
        optK (some c2) fun _ =>
        optK (lloadA T25 (some c2) 2) fun t17 =>
        optK (appendA T3 S_2 (.vs 1 e15 .full) (AV.strip t17)) fun t18 =>
        optK (elemVals 1 [(AV.strip a1)]) fun e20 =>
        optK (appendA T3 S_2 t18 (.vs 1 e20 .full)) fun t21 =>
        optK (some c2) fun _ =>
        optK (lstoreA T25 (some c2) 2 t21) fun b2 =>
        j_3 (some b2) S_2)
      (j_3 (some c2) S_2))
theorem G14_eq (Ca) (a0 a1 S0 Q) : WF C Ca 14 (Drw C Ca 14) Try.f14 [a0, a1] S0 Q = G14 Ca a0 a1 S0 Q := by kernel_rfl
theorem G14_ok {w0 : World} {a0 a1 : AV} {S0 : St} {Q : AV → St → Prop} (h : G14 (ACalls (En w0)) a0 a1 S0 Q) : ACalls (En w0) 14 [a0, a1] S0 Q := fn_ok w0 Try.func14 (by kernel_rfl) (by rw [G14_eq]; exact h)
def G15 (Ca : Nat → List AV → St → (AV → St → Prop) → Prop) (a0 a1 : AV) (S0 : St) (Q : AV → St → Prop) : Prop :=
    callK Ca 20 [(AV.strip a0), (AV.strip a1)] S0 fun t7 S =>
    optK (unA .not t7) fun t8 =>
    ifK t8
    (optK (some (.bool false)) fun rr =>
      Q rr S)
    (optK (nilA (AV.strip a0)) fun t10 =>
      optK (movePtr t10 0) fun t11 =>
      optK (loadA T24 S t11) fun t12 =>
      optK (deleteA .int S (AV.strip t12) (AV.strip a1)) fun S_2 =>
      joinK (fun (S_4 : St) =>
        optK (some (.bool true)) fun rr =>
        Q rr S_4) fun j =>
      optK (nilA (AV.strip a0)) fun t15 =>
      optK (movePtr t15 1) fun t16 =>
      optK (loadA T3 S_2 t16) fun t17 =>
      optK (binA .add (AV.strip a1) (.int .i64 1)) fun t19 =>
      optK (binA .eql (AV.strip t17) t19) fun t20 =>
      ifK t20
      (optK (nilA (AV.strip a0)) fun t22 =>
        optK (movePtr t22 1) fun t23 =>
        optK (storeA T3 S_2 t23 (.int .i64 0)) fun S_3 =>
        j S_3)
      (j S_2))
theorem G15_eq (Ca) (a0 a1 S0 Q) : WF C Ca 15 (Drw C Ca 15) Try.f15 [a0, a1] S0 Q = G15 Ca a0 a1 S0 Q := by kernel_rfl
theorem G15_ok {w0 : World} {a0 a1 : AV} {S0 : St} {Q : AV → St → Prop} (h : G15 (ACalls (En w0)) a0 a1 S0 Q) : ACalls (En w0) 15 [a0, a1] S0 Q := fn_ok w0 Try.func15 (by kernel_rfl) (by rw [G15_eq]; exact h)
def G16 (Ca : Nat → List AV → St → (AV → St → Prop) → Prop) (a0 a1 : AV) (S0 : St) (Q : AV → St → Prop) : Prop :=
    optK (boxA T29 a0) fun c2 =>
    optK (lloadA T29 (some c2) 0) fun t6 =>
    callK Ca 21 [(AV.strip t6), (AV.strip a1)] S0 fun t8 S =>
    optK (unA .not t8) fun t9 =>
    ifK t9
    (optK (lloadA T29 (some c2) 0) fun t10 =>
      optK (lstoreA T29 (some T29.zero) 0 (AV.strip t10)) fun b4 =>
      optK ((lloadA T29 (some b4) 0).map AV.strip) fun r4 =>
      optK (some (.bool false)) fun r5 =>
      Q (.tup [(AV.flat r4), (AV.flat r5)]) S)
    (optK (some c2) fun _ =>
      optK (lloadA T25 (some c2) 0) fun t12 =>
      callK Ca 37 [(AV.strip t12), (AV.strip a1)] S fun t14 S_2 =>
      optK (some c2) fun _ =>
      optK (lstoreA T25 (some c2) 0 t14) fun b2 =>
      optK (some b2) fun _ =>
      optK (lloadA T25 (some b2) 1) fun t17 =>
      callK Ca 37 [(AV.strip t17), (AV.strip a1)] S_2 fun t19 S_3 =>
      optK (some b2) fun _ =>
      optK (lstoreA T25 (some b2) 1 t19) fun b2_2 =>
      optK (lloadA T29 (some b2_2) 0) fun t21 =>
      optK (lstoreA T29 (some T29.zero) 0 (AV.strip t21)) fun b4_2 =>
      optK ((lloadA T29 (some b4_2) 0).map AV.strip) fun r4_2 =>
      optK (some (.bool true)) fun r5_2 =>
      Q (.tup [(AV.flat r4_2), (AV.flat r5_2)]) S_3)
theorem G16_eq (Ca) (a0 a1 S0 Q) : WF C Ca 16 (Drw C Ca 16) Try.f16 [a0, a1] S0 Q = G16 Ca a0 a1 S0 Q := by kernel_rfl
theorem G16_ok {w0 : World} {a0 a1 : AV} {S0 : St} {Q : AV → St → Prop} (h : G16 (ACalls (En w0)) a0 a1 S0 Q) : ACalls (En w0) 16 [a0, a1] S0 Q := fn_ok w0 Try.func16 (by kernel_rfl) (by rw [G16_eq]; exact h)
def G17 (Ca : Nat → List AV → St → (AV → St → Prop) → Prop) (a0 : AV) (S0 : St) (Q : AV → St → Prop) : Prop :=
    optK (nilA (AV.strip a0)) fun t4 =>
    optK (movePtr t4 0) fun t5 =>
    optK (loadA T24 S0 t5) fun t6 =>
    optK (lenMapA S0 (AV.strip t6)) fun t7 =>
    optK (some t7) fun rr =>
    Q rr S0
theorem G17_eq (Ca) (a0 S0 Q) : WF C Ca 17 (Drw C Ca 17) Try.f17 [a0] S0 Q = G17 Ca a0 S0 Q := by kernel_rfl
theorem G17_ok {w0 : World} {a0 : AV} {S0 : St} {Q : AV → St → Prop} (h : G17 (ACalls (En w0)) a0 S0 Q) : ACalls (En w0) 17 [a0] S0 Q := fn_ok w0 Try.func17 (by kernel_rfl) (by rw [G17_eq]; exact h)
def G18 (Ca : Nat → List AV → St → (AV → St → Prop) → Prop) (a0 : AV) (S0 : St) (Q : AV → St → Prop) : Prop :=
    optK (nilA (AV.strip a0)) fun t4 =>
    optK (movePtr t4 1) fun t5 =>
    optK (loadA T3 S0 t5) fun t6 =>
    optK (minA [(AV.strip t6), (.int .i64 1)]) fun t7 =>
    optK (some t7) fun rr =>
    Q rr S0
theorem G18_eq (Ca) (a0 S0 Q) : WF C Ca 18 (Drw C Ca 18) Try.f18 [a0] S0 Q = G18 Ca a0 S0 Q := by kernel_rfl
theorem G18_ok {w0 : World} {a0 : AV} {S0 : St} {Q : AV → St → Prop} (h : G18 (ACalls (En w0)) a0 S0 Q) : ACalls (En w0) 18 [a0] S0 Q := fn_ok w0 Try.func18 (by kernel_rfl) (by rw [G18_eq]; exact h)
def G19 (Ca : Nat → List AV → St → (AV → St → Prop) → Prop) (a0 : AV) (S0 : St) (Q : AV → St → Prop) : Prop :=
    optK (nilA (AV.strip a0)) fun t4 =>
    optK (movePtr t4 2) fun t5 =>
    optK (loadA T25 S0 t5) fun t6 =>
    optK (lenSlA (AV.strip t6)) fun t7 =>
    optK (some t7) fun rr =>
    Q rr S0
theorem G19_eq (Ca) (a0 S0 Q) : WF C Ca 19 (Drw C Ca 19) Try.f19 [a0] S0 Q = G19 Ca a0 S0 Q := by kernel_rfl
theorem G19_ok {w0 : World} {a0 : AV} {S0 : St} {Q : AV → St → Prop} (h : G19 (ACalls (En w0)) a0 S0 Q) : ACalls (En w0) 19 [a0] S0 Q := fn_ok w0 Try.func19 (by kernel_rfl) (by rw [G19_eq]; exact h)
def G20 (Ca : Nat → List AV → St → (AV → St → Prop) → Prop) (a0 a1 : AV) (S0 : St) (Q : AV → St → Prop) : Prop :=
    optK (nilA (AV.strip a0)) fun t9 =>
    optK (movePtr t9 0) fun t10 =>
    optK (loadA T24 S0 t10) fun t11 =>
    optK (lookupA .int T65 S0 (AV.strip t11) (AV.strip a1)) fun p13 =>
    optK (extractA (.tup [p13.1, .bool p13.2]) 0) fun t14 =>
    optK (extractA (stripTup (.tup [p13.1, .bool p13.2]) 0) 1) fun t15 =>
    optK (lstoreA T65 (some T65.zero) 0 t14) fun b5 =>
    joinK (fun (x24 : AV) =>
      optK (pickA (AV.strip (AV.strip t15)) (.bool true) x24) fun t25 =>
      optK (some (AV.strip t25)) fun rr =>
      Q rr S0) fun j =>
    ifK (AV.strip (AV.strip t15))
    (j (.tup []))
    (optK (nilA (AV.strip a0)) fun t19 =>
      optK (movePtr t19 1) fun t20 =>
      optK (loadA T3 S0 t20) fun t21 =>
      optK (binA .add (AV.strip a1) (.int .i64 1)) fun t23 =>
      optK (binA .eql (AV.strip t21) t23) fun t24 =>
      j t24)
theorem G20_eq (Ca) (a0 a1 S0 Q) : WF C Ca 20 (Drw C Ca 20) Try.f20 [a0, a1] S0 Q = G20 Ca a0 a1 S0 Q := by kernel_rfl
theorem G20_ok {w0 : World} {a0 a1 : AV} {S0 : St} {Q : AV → St → Prop} (h : G20 (ACalls (En w0)) a0 a1 S0 Q) : ACalls (En w0) 20 [a0, a1] S0 Q := fn_ok w0 Try.func20 (by kernel_rfl) (by rw [G20_eq]; exact h)
def G21 (Ca : Nat → List AV → St → (AV → St → Prop) → Prop) (a0 a1 : AV) (S0 : St) (Q : AV → St → Prop) : Prop :=
    optK (boxA T29 a0) fun c2 =>
    optK (some c2) fun _ =>
    optK (lloadA T25 (some c2) 0) fun t6 =>
    callK Ca 36 [(AV.strip t6), (AV.strip a1)] S0 fun t8 S =>
    joinK (fun (x13 : AV) (S_3 : St) =>
      optK (pickA (AV.strip t8) (.bool true) x13) fun t14 =>
      optK (some (AV.strip t14)) fun rr =>
      Q rr S_3) fun j =>
    ifK (AV.strip t8)
    (j (.tup []) S)
    (optK (some c2) fun _ =>
      optK (lloadA T25 (some c2) 1) fun t11 =>
      callK Ca 36 [(AV.strip t11), (AV.strip a1)] S fun t13 S_2 =>
      j t13 S_2)
theorem G21_eq (Ca) (a0 a1 S0 Q) : WF C Ca 21 (Drw C Ca 21) Try.f21 [a0, a1] S0 Q = G21 Ca a0 a1 S0 Q := by kernel_rfl
theorem G21_ok {w0 : World} {a0 a1 : AV} {S0 : St} {Q : AV → St → Prop} (h : G21 (ACalls (En w0)) a0 a1 S0 Q) : ACalls (En w0) 21 [a0, a1] S0 Q := fn_ok w0 Try.func21 (by kernel_rfl) (by rw [G21_eq]; exact h)
def G22 (Ca : Nat → List AV → St → (AV → St → Prop) → Prop) (S0 : St) (Q : AV → St → Prop) : Prop :=
    optK (elemVals 1 [(.str [97]), (.str [99])]) fun e2 =>
    optK (elemVals 1 [(.str [98]), (.str [99])]) fun e3 =>
    optK (elemVals 1 [(.vs 1 e2 .full), (.vs 1 e3 .full)]) fun e4 =>
    callK Ca 24 [(.vs 1 e4 .full)] S0 fun t5 S =>
    optK (lenSlA (AV.strip t5)) fun t7 =>
    optK (binA .eql t7 (.int .i64 4)) fun t8 =>
    joinK (fun (x14 : AV) =>
      optK (pickA (AV.strip t8) x14 (.bool false)) fun t15 =>
      joinK (fun (x21 : AV) =>
        optK (pickA (AV.strip (AV.strip t15)) x21 (.bool false)) fun t22 =>
        joinK (fun (x27 : AV) (S_3 : St) =>
          optK (pickA (AV.strip (AV.strip t22)) x27 (.bool false)) fun t28 =>
          optK (some (AV.strip t28)) fun rr =>
          Q rr S_3) fun j =>
        ifK (AV.strip (AV.strip t22))
        (callK Ca 26 [(AV.strip t5)] S fun t25 S_2 =>
          optK (lenSlA t25) fun t26 =>
          optK (binA .eql t26 (.int .i64 3)) fun t27 =>
          j t27 S_2)
        (j (.tup []) S)) fun j_2 =>
      ifK (AV.strip (AV.strip t15))
      (optK (idxSlA T48 (AV.strip t5) (.int .i64 3)) fun t18 =>
        optK (loadA T48 S t18) fun t19 =>
        optK (buildA T48 1 [(0, (.str [99])), (1, (.int .i64 1))]) fun t20 =>
        optK (binE (.agg T48.zero) .eql (AV.strip t19) t20) fun t21 =>
        j_2 t21)
      (j_2 (.tup []))) fun j_3 =>
    ifK (AV.strip t8)
    (optK (idxSlA T48 (AV.strip t5) (.int .i64 1)) fun t11 =>
      optK (loadA T48 S t11) fun t12 =>
      optK (buildA T48 1 [(0, (.str [98])), (1, (.int .i64 1))]) fun t13 =>
      optK (binE (.agg T48.zero) .eql (AV.strip t12) t13) fun t14 =>
      j_3 t14)
    (j_3 (.tup []))
theorem G22_eq (Ca) (S0 Q) : WF C Ca 22 (Drw C Ca 22) Try.f22 [] S0 Q = G22 Ca  S0 Q := by kernel_rfl
theorem G22_ok {w0 : World} {S0 : St} {Q : AV → St → Prop} (h : G22 (ACalls (En w0))  S0 Q) : ACalls (En w0) 22 [] S0 Q := fn_ok w0 Try.func22 (by kernel_rfl) (by rw [G22_eq]; exact h)
def G23 (Ca : Nat → List AV → St → (AV → St → Prop) → Prop) (a0 : AV) (S0 : St) (Q : AV → St → Prop) : Prop :=
    joinK (fun (S_3 : St) =>
      optK (some (.bool true)) fun rr =>
      Q rr S_3) fun j =>
    loopQ ([(.int .i64 1)], []) (fun v bx => ([v 3], [])) (fun nx v bx S =>
      optK (lenSlA (AV.strip a0)) fun t6 =>
      optK (binA .lss (AV.strip (v 3)) t6) fun t7 =>
      ifK t7
      (optK (binA .sub (AV.strip (v 3)) (.int .i64 1)) fun t12 =>
        optK (idxSlA T9 (AV.strip a0) t12) fun t13 =>
        optK (loadA T9 S t13) fun t14 =>
        optK (idxSlA T9 (AV.strip a0) (AV.strip (v 3))) fun t17 =>
        optK (loadA T9 S t17) fun t18 =>
        callK Ca 38 [(AV.strip t14), (AV.strip t18)] S fun t19 S_2 =>
        optK (unA .not t19) fun t20 =>
        ifK t20
        (optK (some (.bool false)) fun rr =>
          Q rr S_2)
        (optK (binA .add (AV.strip (v 3)) (.int .i64 1)) fun t9 =>
          nx ([t9], []) S_2))
      (j S)) S0
theorem G23_eq (Ca) (a0 S0 Q) : WF C Ca 23 (Drw C Ca 23) Try.f23 [a0] S0 Q = G23 Ca a0 S0 Q := by kernel_rfl
theorem G23_ok {w0 : World} {a0 : AV} {S0 : St} {Q : AV → St → Prop} (h : G23 (ACalls (En w0)) a0 S0 Q) : ACalls (En w0) 23 [a0] S0 Q := fn_ok w0 Try.func23 (by kernel_rfl) (by rw [G23_eq]; exact h)
def G24 (Ca : Nat → List AV → St → (AV → St → Prop) → Prop) (a0 : AV) (S0 : St) (Q : AV → St → Prop) : Prop :=
    optK (buildA T76 1 [(1, (.fn 39 [] []))]) fun t9 =>
    optK (boxA T76 t9) fun c10 =>
    joinK (fun (x4_2 : AV) (S_4 : St) =>
      optK (ifaceA T71 71 (AV.strip (.ptr S0.length 0))) fun t44 =>
      callK Ca 40 [t44] S_4 fun t45 S_5 =>
      optK (makeSliceA T48 false S_5 (.int .i64 0) (AV.strip x4_2)) fun p47 =>
      joinK (fun (x7 : AV) (S_12 : St) =>
        optK (some (AV.strip x7)) fun rr =>
        Q rr S_12) fun j_2 =>
      loopQ ([p47.1], []) (fun v_2 bx_2 => ([v_2 7], [])) (fun nx_2 v_2 bx_2 S_6 =>
        callK Ca 41 [(AV.strip (.ptr S0.length 0))] S_6 fun t49 S_7 =>
        optK (binA .gtr t49 (.int .i64 0)) fun t50 =>
        ifK t50
        (optK (nilA (AV.strip (.ptr S0.length 0))) fun t52 =>
          optK (movePtr t52 0) fun t53 =>
          optK (loadA T74 S_7 t53) fun t54 =>
          optK (idxSlA T78 (AV.strip t54) (.int .i64 0)) fun t55 =>
          optK (nilA (AV.strip t55)) fun t58 =>
          optK (movePtr t58 0) fun t59 =>
          optK (loadA T48 S_7 t59) fun t60 =>
          optK (elemVals 2 [(AV.strip t60)]) fun e61 =>
          optK (appendA T48 S_7 (v_2 7) (.vs 2 e61 .full)) fun t62 =>
          optK (nilA (AV.strip t55)) fun t64 =>
          optK (movePtr t64 2) fun t65 =>
          optK (loadA T40 S_7 t65) fun t66 =>
          optK (lenSlA (AV.strip t66)) fun t67 =>
          optK (binA .eql t67 (.int .i64 0)) fun t68 =>
          ifK t68
          (optK (ifaceA T71 71 (AV.strip (.ptr S0.length 0))) fun t70 =>
            callK Ca 42 [t70] S_7 fun t71 S_8 =>
            nx_2 ([t62], []) S_8)
          (optK (nilA (AV.strip t55)) fun t75 =>
            optK (movePtr t75 2) fun t76 =>
            optK (loadA T40 S_7 t76) fun t77 =>
            optK (idxSlA T9 (AV.strip t77) (.int .i64 0)) fun t78 =>
            optK (loadA T9 S_7 t78) fun t79 =>
            optK (nilA (AV.strip t55)) fun t81 =>
            optK (movePtr t81 2) fun t82 =>
            optK (loadA T40 S_7 t82) fun t83 =>
            optK (nilA (AV.strip t55)) fun t85 =>
            optK (movePtr t85 0) fun t86 =>
            optK (movePtr t86 0) fun t87 =>
            optK (cutA T9 (AV.strip t83) (some (.int .i64 1)) none none) fun t84 =>
            optK (storeA T9 S_7 t87 (AV.strip t79)) fun S_9 =>
            optK (nilA (AV.strip t55)) fun t88 =>
            optK (movePtr t88 2) fun t89 =>
            optK (storeA T40 S_9 t89 t84) fun S_10 =>
            optK (ifaceA T71 71 (AV.strip (.ptr S0.length 0))) fun t91 =>
            callK Ca 43 [t91, (.int .i64 0)] S_10 fun t92 S_11 =>
            nx_2 ([t62], []) S_11))
        (j_2 (v_2 7) S_7)) p47.2) fun j_3 =>
    optK (lenSlA (AV.strip a0)) fun t12 =>
    loopQ ([(.int .i64 0), (.int .i64 0)], []) (fun v bx => ([v 4, v 13], [])) (fun nx v bx S =>
      optK (binA .lss (v 13) t12) fun t14 =>
      ifK t14
      (joinK (fun (x4 : AV) (S_3 : St) =>
          optK (binA .add (v 13) (.int .i64 1)) fun t42 =>
          nx ([x4, (AV.strip t42)], []) S_3) fun j =>
        optK (idxSlA T40 (AV.strip a0) (v 13)) fun t16 =>
        optK (loadA T40 S t16) fun t17 =>
        optK (lenSlA (AV.strip (AV.strip t17))) fun t20 =>
        optK (binA .add (AV.strip (v 4)) t20) fun t21 =>
        optK (lenSlA (AV.strip (AV.strip t17))) fun t23 =>
        optK (binA .gtr t23 (.int .i64 0)) fun t24 =>
        ifK t24
        (optK (nilA (AV.strip (.ptr S0.length 0))) fun t27 =>
          optK (movePtr t27 0) fun t28 =>
          optK (idxSlA T9 (AV.strip (AV.strip t17)) (.int .i64 0)) fun t31 =>
          optK (loadA T9 S t31) fun t32 =>
          optK (buildA T48 1 [(0, (AV.strip t32)), (1, (AV.strip (AV.strip (v 13))))]) fun t34 =>
          optK (cutA T9 (AV.strip (AV.strip t17)) (some (.int .i64 1)) none none) fun t36 =>
          optK (buildA T78 1 [(0, t34), (1, t36)]) fun t37 =>
          optK (elemVals 3 [t37]) fun e38 =>
          optK (loadA T74 S t28) fun t29 =>
          (optK (loadA T9 (stripMem S t28) t31) fun t32_2 =>
            (AV.strip t32_2) = (AV.strip t32)) ∧
          (optK (appendR T78 (stripMem S t28) (AV.strip0 t29) (.vs 3 e38 .full)) fun p39 =>
            optK (nilA (AV.strip (.ptr S0.length 0))) fun t40 =>
            optK (movePtr t40 0) fun t41 =>
            optK (storeA T74 p39.2 t41 p39.1) fun S_2 =>
            j t21 S_2))
        (j t21 S))
      (j_3 (v 4) S)) (S0 ++ [.cells c10])
theorem G24_eq (Ca) (a0 S0 Q) : WF C Ca 24 (Drw C Ca 24) Try.f24 [a0] S0 Q = G24 Ca a0 S0 Q := by kernel_rfl
theorem G24_ok {w0 : World} {a0 : AV} {S0 : St} {Q : AV → St → Prop} (h : G24 (ACalls (En w0)) a0 S0 Q) : ACalls (En w0) 24 [a0] S0 Q := fn_ok w0 Try.func24 (by kernel_rfl) (by rw [G24_eq]; exact h)
def G25 (Ca : Nat → List AV → St → (AV → St → Prop) → Prop) (a0 : AV) (S0 : St) (Q : AV → St → Prop) : Prop :=
    optK (lenSlA (AV.strip a0)) fun t8 =>
    optK (makeSliceA T3 false S0 t8 t8) fun p9 =>
    optK (elemVals 2 []) fun e10 =>
    loopQ ([(.vs 2 e10 .full)], []) (fun v bx => ([v 4], [])) (fun nx v bx S =>
      joinK (fun (x5_2 : AV) (S_7 : St) =>
        optK (binA .lss (AV.strip x5_2) (.int .i64 0)) fun t56 =>
        ifK t56
        (optK (some (AV.strip (v 4))) fun rr =>
          Q rr S_7)
        (optK (idxSlA T40 (AV.strip a0) (AV.strip x5_2)) fun t61 =>
          optK (loadA T40 S_7 t61) fun t62 =>
          optK (idxSlA T3 (AV.strip p9.1) (AV.strip x5_2)) fun t65 =>
          optK (loadA T3 S_7 t65) fun t66 =>
          optK (idxSlA T9 (AV.strip t62) (AV.strip t66)) fun t67 =>
          optK (loadA T9 S_7 t67) fun t68 =>
          optK (buildA T49 1 [(0, (AV.strip t68)), (1, (AV.strip x5_2))]) fun t70 =>
          optK (elemVals 2 [t70]) fun e71 =>
          optK (appendA T49 S_7 (v 4) (.vs 2 e71 .full)) fun t72 =>
          optK (idxSlA T3 (AV.strip p9.1) (AV.strip x5_2)) fun t77 =>
          optK (loadA T3 S_7 t77) fun t78 =>
          optK (binA .add (AV.strip t78) (.int .i64 1)) fun t79 =>
          optK (idxSlA T3 (AV.strip p9.1) (AV.strip x5_2)) fun t80 =>
          optK (storeA T3 S_7 t80 t79) fun S_8 =>
          nx ([t72], []) S_8)) fun j_4 =>
      loopQ ([(.int .i64 (-1)), (.int .i64 0)], []) (fun v_2 bx_2 => ([v_2 5, v_2 6], [])) (fun nx_2 v_2 bx_2 S_2 =>
        optK (lenSlA (AV.strip a0)) fun t13 =>
        optK (binA .lss (AV.strip (v_2 6)) t13) fun t14 =>
        ifK t14
        (joinK (fun (x5 : AV) (S_6 : St) =>
            optK (binA .add (AV.strip (v_2 6)) (.int .i64 1)) fun t16 =>
            nx_2 ([x5, t16], []) S_6) fun j_3 =>
          optK (idxSlA T3 (AV.strip p9.1) (AV.strip (v_2 6))) fun t19 =>
          optK (loadA T3 S_2 t19) fun t20 =>
          optK (idxSlA T40 (AV.strip a0) (AV.strip (v_2 6))) fun t23 =>
          optK (loadA T40 S_2 t23) fun t24 =>
          optK (lenSlA (AV.strip t24)) fun t25 =>
          optK (binA .lss (AV.strip t20) t25) fun t26 =>
          joinK (fun (x52 : AV) (S_5 : St) =>
            optK (pickA (AV.strip t26) x52 (.bool false)) fun t53 =>
            ifK (AV.strip t53)
            (j_3 (AV.strip (v_2 6)) S_5)
            (j_3 (v_2 5) S_5)) fun j_2 =>
          ifK (AV.strip t26)
          (optK (binA .lss (AV.strip (v_2 5)) (.int .i64 0)) fun t29 =>
            joinK (fun (x51 : AV) (S_4 : St) =>
              optK (pickA (AV.strip t29) (.bool true) x51) fun t52 =>
              j_2 (AV.strip t52) S_4) fun j =>
            gK (AV.strip t29)
            (j (.tup []) S_2)
            (optK (idxSlA T40 (AV.strip a0) (AV.strip (v_2 6))) fun t33 =>
              optK (loadA T40 S_2 t33) fun t34 =>
              optK (idxSlA T3 (AV.strip p9.1) (AV.strip (v_2 6))) fun t37 =>
              optK (loadA T3 S_2 t37) fun t38 =>
              optK (idxSlA T9 (AV.strip t34) (AV.strip t38)) fun t39 =>
              optK (loadA T9 S_2 t39) fun t40 =>
              optK (idxSlA T40 (AV.strip a0) (AV.strip (v_2 5))) fun t43 =>
              optK (loadA T40 S_2 t43) fun t44 =>
              optK (idxSlA T3 (AV.strip p9.1) (AV.strip (v_2 5))) fun t47 =>
              optK (loadA T3 S_2 t47) fun t48 =>
              optK (idxSlA T9 (AV.strip t44) (AV.strip t48)) fun t49 =>
              optK (loadA T9 S_2 t49) fun t50 =>
              callK Ca 38 [(AV.strip t40), (AV.strip t50)] S_2 fun t51 S_3 =>
              j t51 S_3)
            (j (.tup []) S_2))
          (j_2 (.tup []) S_2))
        (j_4 (v_2 5) S_2)) S) p9.2
theorem G25_eq (Ca) (a0 S0 Q) : WF C Ca 25 (Drw C Ca 25) Try.f25 [a0] S0 Q = G25 Ca a0 S0 Q := by kernel_rfl
theorem G25_ok {w0 : World} {a0 : AV} {S0 : St} {Q : AV → St → Prop} (h : G25 (ACalls (En w0)) a0 S0 Q) : ACalls (En w0) 25 [a0] S0 Q := fn_ok w0 Try.func25 (by kernel_rfl) (by rw [G25_eq]; exact h)
def G26 (Ca : Nat → List AV → St → (AV → St → Prop) → Prop) (a0 : AV) (S0 : St) (Q : AV → St → Prop) : Prop :=
    joinK (fun (x3_2 : AV) (S_2 : St) =>
      optK (some (AV.strip x3_2)) fun rr =>
      Q rr S_2) fun j_3 =>
    optK (lenSlA (AV.strip a0)) fun t7 =>
    loopQ ([(.vs 2 [] .nil), (.int .i64 0)], []) (fun v bx => ([v 3, v 8], [])) (fun nx v bx S =>
      optK (binA .lss (v 8) t7) fun t9 =>
      ifK t9
      (joinK (fun (x3 : AV) =>
          optK (binA .add (v 8) (.int .i64 1)) fun t30 =>
          nx ([x3, (AV.strip t30)], []) S) fun j_2 =>
        optK (idxSlA T48 (AV.strip a0) (v 8)) fun t11 =>
        optK (loadA T48 S t11) fun t12 =>
        optK (lstoreA T48 (some T48.zero) 0 (AV.strip t12)) fun b5 =>
        optK (binA .eql (AV.strip (AV.strip (v 8))) (.int .i64 0)) fun t14 =>
        joinK (fun (x24 : AV) =>
          optK (pickA (AV.strip t14) (.bool true) x24) fun t25 =>
          ifK (AV.strip t25)
          (optK (lloadA T48 (some b5) 0) fun t27 =>
            optK (elemVals 2 [(AV.strip t27)]) fun e28 =>
            optK (appendA T48 S (v 3) (.vs 2 e28 .full)) fun t29 =>
            j_2 t29)
          (j_2 (v 3))) fun j =>
        ifK (AV.strip t14)
        (j (.tup []))
        (optK (binA .sub (AV.strip (AV.strip (v 8))) (.int .i64 1)) fun t18 =>
          optK (idxSlA T48 (AV.strip a0) t18) fun t19 =>
          optK (movePtr t19 0) fun t20 =>
          optK (loadA T9 S t20) fun t21 =>
          optK (some b5) fun _ =>
          optK (lloadA T9 (some b5) 0) fun t23 =>
          optK (binA .neq (AV.strip t21) (AV.strip t23)) fun t24 =>
          j t24))
      (j_3 (v 3) S)) S0
theorem G26_eq (Ca) (a0 S0 Q) : WF C Ca 26 (Drw C Ca 26) Try.f26 [a0] S0 Q = G26 Ca a0 S0 Q := by kernel_rfl
theorem G26_ok {w0 : World} {a0 : AV} {S0 : St} {Q : AV → St → Prop} (h : G26 (ACalls (En w0)) a0 S0 Q) : ACalls (En w0) 26 [a0] S0 Q := fn_ok w0 Try.func26 (by kernel_rfl) (by rw [G26_eq]; exact h)
def G27 (Ca : Nat → List AV → St → (AV → St → Prop) → Prop) (a0 : AV) (S0 : St) (Q : AV → St → Prop) : Prop :=
    joinK (fun (x3 : AV) (S_3 : St) =>
      optK (some (AV.strip x3)) fun rr =>
      Q rr S_3) fun j =>
    callK Ca 26 [(AV.strip a0)] S0 fun t7 S =>
    optK (lenSlA t7) fun t8 =>
    loopQ ([(.vs 1 [] .nil), (.int .i64 0)], []) (fun v bx => ([v 3, v 9], [])) (fun nx v bx S_2 =>
      optK (binA .lss (v 9) t8) fun t10 =>
      ifK t10
      (optK (idxSlA T48 t7 (v 9)) fun t11 =>
        optK (loadA T48 S_2 t11) fun t12 =>
        optK (lstoreA T48 (some T48.zero) 0 (AV.strip t12)) fun b5 =>
        optK (some b5) fun _ =>
        optK (lloadA T9 (some b5) 0) fun t15 =>
        optK (elemVals 1 [(AV.strip t15)]) fun e16 =>
        optK (appendA T9 S_2 (v 3) (.vs 1 e16 .full)) fun t17 =>
        optK (binA .add (v 9) (.int .i64 1)) fun t18 =>
        nx ([t17, (AV.strip t18)], []) S_2)
      (j (v 3) S_2)) S
theorem G27_eq (Ca) (a0 S0 Q) : WF C Ca 27 (Drw C Ca 27) Try.f27 [a0] S0 Q = G27 Ca a0 S0 Q := by kernel_rfl
theorem G27_ok {w0 : World} {a0 : AV} {S0 : St} {Q : AV → St → Prop} (h : G27 (ACalls (En w0)) a0 S0 Q) : ACalls (En w0) 27 [a0] S0 Q := fn_ok w0 Try.func27 (by kernel_rfl) (by rw [G27_eq]; exact h)
def G28 (Ca : Nat → List AV → St → (AV → St → Prop) → Prop) (S0 : St) (Q : AV → St → Prop) : Prop :=
    optK (buildA T62 1 [(0, (.int .i64 1)), (1, (.str [98]))]) fun t2 =>
    optK (elemVals 2 [t2]) fun e3 =>
    callK Ca 30 [(.int .i64 6), (.vs 2 e3 .full)] S0 fun t5 S =>
    joinK (fun (x9 : AV) (S_3 : St) =>
      optK (pickA (AV.strip t5) x9 (.bool false)) fun t10 =>
      joinK (fun (x14 : AV) (S_5 : St) =>
        optK (pickA (AV.strip (AV.strip t10)) x14 (.bool false)) fun t15 =>
        joinK (fun (x19 : AV) (S_7 : St) =>
          optK (pickA (AV.strip (AV.strip t15)) x19 (.bool false)) fun t20 =>
          optK (some (AV.strip t20)) fun rr =>
          Q rr S_7) fun j =>
        ifK (AV.strip (AV.strip t15))
        (callK Ca 34 [(.str [0, 98, 0])] S_5 fun t17 S_6 =>
          optK (lenSlA t17) fun t18 =>
          optK (binA .eql t18 (.int .i64 1)) fun t19 =>
          j t19 S_6)
        (j (.tup []) S_5)) fun j_2 =>
      ifK (AV.strip (AV.strip t10))
      (callK Ca 32 [(.int .i64 6), (.vs 2 e3 .full), (.int .i64 0), (.int .i64 9)] S_3 fun t13 S_4 =>
        optK (binA .eql t13 (.str [0, 98, 0, 0, 0, 0])) fun t14 =>
        j_2 t14 S_4)
      (j_2 (.tup []) S_3)) fun j_3 =>
    ifK (AV.strip t5)
    (callK Ca 30 [(.int .i64 1), (.vs 2 e3 .full)] S fun t8 S_2 =>
      optK (unA .not t8) fun t9 =>
      j_3 t9 S_2)
    (j_3 (.tup []) S)
theorem G28_eq (Ca) (S0 Q) : WF C Ca 28 (Drw C Ca 28) Try.f28 [] S0 Q = G28 Ca  S0 Q := by kernel_rfl
theorem G28_ok {w0 : World} {S0 : St} {Q : AV → St → Prop} (h : G28 (ACalls (En w0))  S0 Q) : ACalls (En w0) 28 [] S0 Q := fn_ok w0 Try.func28 (by kernel_rfl) (by rw [G28_eq]; exact h)
def G29 (Ca : Nat → List AV → St → (AV → St → Prop) → Prop) (a0 : AV) (S0 : St) (Q : AV → St → Prop) : Prop :=
    joinK (fun (S_2 : St) =>
      optK (some (.bool false)) fun rr =>
      Q rr S_2) fun j =>
    optK (lenSlA (AV.strip a0)) fun t7 =>
    loopQ ([(.int .i64 0), (.int .i64 0)], []) (fun v bx => ([v 3, v 8], [])) (fun nx v bx S =>
      optK (binA .lss (v 8) t7) fun t9 =>
      ifK t9
      (optK (idxSlA T62 (AV.strip a0) (v 8)) fun t10 =>
        optK (loadA T62 S t10) fun t11 =>
        optK (lstoreA T62 (some T62.zero) 0 (AV.strip t11)) fun b5 =>
        optK (some b5) fun _ =>
        optK (lloadA T9 (some b5) 1) fun t14 =>
        optK (lenStrA (AV.strip t14)) fun t15 =>
        optK (binA .add t15 (.int .i64 1)) fun t16 =>
        optK (binA .add (AV.strip (v 3)) t16) fun t17 =>
        optK (binA .gtr (AV.strip t17) (.int .i64 500)) fun t19 =>
        ifK t19
        (optK (some (.bool true)) fun rr =>
          Q rr S)
        (optK (binA .add (v 8) (.int .i64 1)) fun t20 =>
          nx ([t17, (AV.strip t20)], []) S))
      (j S)) S0
theorem G29_eq (Ca) (a0 S0 Q) : WF C Ca 29 (Drw C Ca 29) Try.f29 [a0] S0 Q = G29 Ca a0 S0 Q := by kernel_rfl
theorem G29_ok {w0 : World} {a0 : AV} {S0 : St} {Q : AV → St → Prop} (h : G29 (ACalls (En w0)) a0 S0 Q) : ACalls (En w0) 29 [a0] S0 Q := fn_ok w0 Try.func29 (by kernel_rfl) (by rw [G29_eq]; exact h)
def G30 (Ca : Nat → List AV → St → (AV → St → Prop) → Prop) (a0 a1 : AV) (S0 : St) (Q : AV → St → Prop) : Prop :=
    joinK (fun (S_2 : St) =>
      optK (binA .geq (AV.strip a0) (.int .i64 0)) fun t41 =>
      joinK (fun (x44 : AV) =>
        optK (pickA (AV.strip t41) x44 (.bool false)) fun t45 =>
        optK (some (AV.strip t45)) fun rr =>
        Q rr S_2) fun j_3 =>
      ifK (AV.strip t41)
      (optK (binA .leq (AV.strip a0) (.int .i64 1048576)) fun t44 =>
        j_3 t44)
      (j_3 (.tup []))) fun j_4 =>
    optK (lenSlA (AV.strip a1)) fun t9 =>
    loopQ ([(.int .i64 0), (.int .i64 0)], []) (fun v bx => ([v 5, v 10], [])) (fun nx v bx S =>
      optK (binA .lss (v 10) t9) fun t11 =>
      ifK t11
      (optK (idxSlA T62 (AV.strip a1) (v 10)) fun t12 =>
        optK (loadA T62 S t12) fun t13 =>
        optK (lstoreA T62 (some T62.zero) 0 (AV.strip t13)) fun b7 =>
        optK (some b7) fun _ =>
        optK (lloadA T3 (some b7) 0) fun t15 =>
        optK (binA .lss (AV.strip t15) (AV.strip (v 5))) fun t17 =>
        joinK (fun (x21 : AV) =>
          optK (pickA (AV.strip t17) (.bool true) x21) fun t22 =>
          joinK (fun (x31 : AV) =>
            optK (pickA (AV.strip (AV.strip t22)) (.bool true) x31) fun t32 =>
            ifK (AV.strip t32)
            (optK (some (.bool false)) fun rr =>
              Q rr S)
            (optK (some b7) fun _ =>
              optK (lloadA T3 (some b7) 0) fun t34 =>
              optK (some b7) fun _ =>
              optK (lloadA T9 (some b7) 1) fun t36 =>
              optK (lenStrA (AV.strip t36)) fun t37 =>
              optK (binA .add (AV.strip t34) t37) fun t38 =>
              optK (binA .add (v 10) (.int .i64 1)) fun t39 =>
              nx ([t38, (AV.strip t39)], []) S)) fun j =>
          ifK (AV.strip (AV.strip t22))
          (j (.tup []))
          (optK (some b7) fun _ =>
            optK (lloadA T9 (some b7) 1) fun t25 =>
            optK (lenStrA (AV.strip t25)) fun t26 =>
            optK (some b7) fun _ =>
            optK (lloadA T3 (some b7) 0) fun t29 =>
            optK (binA .sub (AV.strip a0) (AV.strip t29)) fun t30 =>
            optK (binA .gtr t26 t30) fun t31 =>
            j t31)) fun j_2 =>
        ifK (AV.strip t17)
        (j_2 (.tup []))
        (optK (some b7) fun _ =>
          optK (lloadA T9 (some b7) 1) fun t20 =>
          optK (binA .eql (AV.strip t20) (.str [])) fun t21 =>
          j_2 t21))
      (j_4 S)) S0
theorem G30_eq (Ca) (a0 a1 S0 Q) : WF C Ca 30 (Drw C Ca 30) Try.f30 [a0, a1] S0 Q = G30 Ca a0 a1 S0 Q := by kernel_rfl
theorem G30_ok {w0 : World} {a0 a1 : AV} {S0 : St} {Q : AV → St → Prop} (h : G30 (ACalls (En w0)) a0 a1 S0 Q) : ACalls (En w0) 30 [a0, a1] S0 Q := fn_ok w0 Try.func30 (by kernel_rfl) (by rw [G30_eq]; exact h)
def G31 (Ca : Nat → List AV → St → (AV → St → Prop) → Prop) (a0 a1 : AV) (S0 : St) (Q : AV → St → Prop) : Prop :=
    optK (binA .lss (AV.strip a0) (.int .i64 0)) fun t7 =>
    joinK (fun (x10 : AV) =>
      optK (pickA (AV.strip t7) (.bool true) x10) fun t11 =>
      ifK (AV.strip t11)
      (optK (some (.bool false)) fun rr =>
        Q rr S0)
      (joinK (fun (S_2 : St) =>
          optK (some (.bool true)) fun rr =>
          Q rr S_2) fun j_6 =>
        loopQ ([(.int .i64 0)], []) (fun v bx => ([v 5], [])) (fun nx v bx S =>
          optK (lenSlA (AV.strip a1)) fun t14 =>
          optK (binA .lss (AV.strip (v 5)) t14) fun t15 =>
          ifK t15
          (optK (idxSlA T62 (AV.strip a1) (AV.strip (v 5))) fun t20 =>
            optK (movePtr t20 0) fun t21 =>
            optK (loadA T3 S t21) fun t22 =>
            optK (binA .lss (AV.strip t22) (.int .i64 0)) fun t23 =>
            joinK (fun (x31 : AV) =>
              optK (pickA (AV.strip t23) (.bool true) x31) fun t32 =>
              joinK (fun (x40 : AV) =>
                optK (pickA (AV.strip (AV.strip t32)) (.bool true) x40) fun t41 =>
                joinK (fun (x56 : AV) =>
                  optK (pickA (AV.strip (AV.strip t41)) (.bool true) x56) fun t57 =>
                  ifK (AV.strip t57)
                  (optK (some (.bool false)) fun rr =>
                    Q rr S)
                  (optK (binA .gtr (AV.strip (v 5)) (.int .i64 0)) fun t59 =>
                    joinK (fun (x80 : AV) =>
                      optK (pickA (AV.strip t59) x80 (.bool false)) fun t81 =>
                      ifK (AV.strip t81)
                      (optK (some (.bool false)) fun rr =>
                        Q rr S)
                      (optK (binA .add (AV.strip (v 5)) (.int .i64 1)) fun t17 =>
                        nx ([t17], []) S)) fun j_5 =>
                    ifK (AV.strip t59)
                    (optK (idxSlA T62 (AV.strip a1) (AV.strip (v 5))) fun t63 =>
                      optK (movePtr t63 0) fun t64 =>
                      optK (loadA T3 S t64) fun t65 =>
                      optK (binA .sub (AV.strip (v 5)) (.int .i64 1)) fun t68 =>
                      optK (idxSlA T62 (AV.strip a1) t68) fun t69 =>
                      optK (movePtr t69 0) fun t70 =>
                      optK (loadA T3 S t70) fun t71 =>
                      optK (binA .sub (AV.strip (v 5)) (.int .i64 1)) fun t74 =>
                      optK (idxSlA T62 (AV.strip a1) t74) fun t75 =>
                      optK (movePtr t75 1) fun t76 =>
                      optK (loadA T9 S t76) fun t77 =>
                      optK (lenStrA (AV.strip t77)) fun t78 =>
                      optK (binA .add (AV.strip t71) t78) fun t79 =>
                      optK (binA .lss (AV.strip t65) t79) fun t80 =>
                      j_5 t80)
                    (j_5 (.tup [])))) fun j_2 =>
                ifK (AV.strip (AV.strip t41))
                (j_2 (.tup []))
                (optK (idxSlA T62 (AV.strip a1) (AV.strip (v 5))) fun t45 =>
                  optK (movePtr t45 0) fun t46 =>
                  optK (loadA T3 S t46) fun t47 =>
                  optK (idxSlA T62 (AV.strip a1) (AV.strip (v 5))) fun t50 =>
                  optK (movePtr t50 1) fun t51 =>
                  optK (loadA T9 S t51) fun t52 =>
                  optK (lenStrA (AV.strip t52)) fun t53 =>
                  optK (binA .add (AV.strip t47) t53) fun t54 =>
                  optK (binA .gtr t54 (AV.strip a0)) fun t56 =>
                  j_2 t56)) fun j_3 =>
              ifK (AV.strip (AV.strip t32))
              (j_3 (.tup []))
              (optK (idxSlA T62 (AV.strip a1) (AV.strip (v 5))) fun t36 =>
                optK (movePtr t36 1) fun t37 =>
                optK (loadA T9 S t37) fun t38 =>
                optK (lenStrA (AV.strip t38)) fun t39 =>
                optK (binA .lss t39 (.int .i64 1)) fun t40 =>
                j_3 t40)) fun j_4 =>
            ifK (AV.strip t23)
            (j_4 (.tup []))
            (optK (idxSlA T62 (AV.strip a1) (AV.strip (v 5))) fun t27 =>
              optK (movePtr t27 0) fun t28 =>
              optK (loadA T3 S t28) fun t29 =>
              optK (binA .gtr (AV.strip t29) (AV.strip a0)) fun t31 =>
              j_4 t31))
          (j_6 S)) S0)) fun j =>
    ifK (AV.strip t7)
    (j (.tup []))
    (optK (binA .gtr (AV.strip a0) (.int .i64 1048576)) fun t10 =>
      j t10)
theorem G31_eq (Ca) (a0 a1 S0 Q) : WF C Ca 31 (Drw C Ca 31) Try.f31 [a0, a1] S0 Q = G31 Ca a0 a1 S0 Q := by kernel_rfl
theorem G31_ok {w0 : World} {a0 a1 : AV} {S0 : St} {Q : AV → St → Prop} (h : G31 (ACalls (En w0)) a0 a1 S0 Q) : ACalls (En w0) 31 [a0, a1] S0 Q := fn_ok w0 Try.func31 (by kernel_rfl) (by rw [G31_eq]; exact h)
def G32 (Ca : Nat → List AV → St → (AV → St → Prop) → Prop) (a0 a1 a2 a3 : AV) (S0 : St) (Q : AV → St → Prop) : Prop :=
    optK (binA .lss (AV.strip a2) (.int .i64 0)) fun t15 =>
    joinK (fun (x19 : AV) =>
      optK (pickA (AV.strip t15) (.bool true) x19) fun t20 =>
      joinK (fun (x23 : AV) =>
        optK (pickA (AV.strip (AV.strip t20)) (.bool true) x23) fun t24 =>
        ifK (AV.strip t24)
        (optK (some (.str [])) fun rr =>
          Q rr S0)
        (optK (binA .sub (AV.strip a0) (AV.strip a2)) fun t28 =>
          optK (minA [(AV.strip a3), t28]) fun t29 =>
          joinK (fun (S_8 : St) =>
            callK Ca 44 [(.ptr S0.length 0)] S_8 fun t76 S_9 =>
            optK (binA .sub (AV.strip t29) t76) fun t77 =>
            callK Ca 46 [(.str [0]), t77] S_9 fun t78 S_10 =>
            callK Ca 45 [(.ptr S0.length 0), t78] S_10 fun t79 S_11 =>
            callK Ca 47 [(.ptr S0.length 0)] S_11 fun t80 S_12 =>
            optK (some t80) fun rr =>
            Q rr S_12) fun j_4 =>
          optK (lenSlA (AV.strip a1)) fun t31 =>
          loopQ ([(.int .i64 0)], []) (fun v bx => ([v 32], [])) (fun nx v bx S =>
            optK (binA .lss (v 32) t31) fun t33 =>
            ifK t33
            (joinK (fun (S_7 : St) =>
                optK (binA .add (v 32) (.int .i64 1)) fun t74 =>
                nx ([(AV.strip t74)], []) S_7) fun j_3 =>
              optK (idxSlA T62 (AV.strip a1) (v 32)) fun t34 =>
              optK (loadA T62 S t34) fun t35 =>
              optK (lstoreA T62 (some T62.zero) 0 (AV.strip t35)) fun b11 =>
              optK (some b11) fun _ =>
              optK (lloadA T3 (some b11) 0) fun t37 =>
              optK (some b11) fun _ =>
              optK (lloadA T3 (some b11) 0) fun t43 =>
              optK (some b11) fun _ =>
              optK (lloadA T9 (some b11) 1) fun t45 =>
              optK (lenStrA (AV.strip t45)) fun t46 =>
              optK (binA .add (AV.strip t43) t46) fun t47 =>
              optK (binA .add (AV.strip a2) (AV.strip t29)) fun t50 =>
              optK (minA [t47, t50]) fun t51 =>
              callK Ca 44 [(.ptr S0.length 0)] S fun t39 S_2 =>
              optK (binA .add (AV.strip a2) t39) fun t40 =>
              optK (maxA [(AV.strip t37), t40]) fun t41 =>
              optK (binA .geq (AV.strip t41) (AV.strip t51)) fun t54 =>
              ifK t54
              (j_3 S_2)
              (optK (binA .sub (AV.strip t41) (AV.strip a2)) fun t57 =>
                callK Ca 44 [(.ptr S0.length 0)] S_2 fun t58 S_3 =>
                optK (binA .sub t57 t58) fun t59 =>
                callK Ca 46 [(.str [0]), t59] S_3 fun t60 S_4 =>
                callK Ca 45 [(.ptr S0.length 0), t60] S_4 fun t61 S_5 =>
                optK (some b11) fun _ =>
                optK (lloadA T9 (some b11) 1) fun t63 =>
                optK (stripBox (some b11) 1) fun _ =>
                optK (lloadA T3 (stripBox (some b11) 1) 0) fun t66 =>
                optK (binA .sub (AV.strip t41) (AV.strip t66)) fun t67 =>
                optK (stripBox (some b11) 1) fun _ =>
                optK (lloadA T3 (stripBox (some b11) 1) 0) fun t70 =>
                optK (binA .sub (AV.strip t51) (AV.strip t70)) fun t71 =>
                optK (cutStrA (AV.strip0 t63) (some t67) (some t71)) fun t72 =>
                callK Ca 45 [(.ptr S0.length 0), t72] S_5 fun t73 S_6 =>
                j_3 S_6))
            (j_4 S)) (S0 ++ [.cells T86.zero]))) fun j =>
      ifK (AV.strip (AV.strip t20))
      (j (.tup []))
      (optK (binA .lss (AV.strip a3) (.int .i64 1)) fun t23 =>
        j t23)) fun j_2 =>
    ifK (AV.strip t15)
    (j_2 (.tup []))
    (optK (binA .geq (AV.strip a2) (AV.strip a0)) fun t19 =>
      j_2 t19)
theorem G32_eq (Ca) (a0 a1 a2 a3 S0 Q) : WF C Ca 32 (Drw C Ca 32) Try.f32 [a0, a1, a2, a3] S0 Q = G32 Ca a0 a1 a2 a3 S0 Q := by kernel_rfl
theorem G32_ok {w0 : World} {a0 a1 a2 a3 : AV} {S0 : St} {Q : AV → St → Prop} (h : G32 (ACalls (En w0)) a0 a1 a2 a3 S0 Q) : ACalls (En w0) 32 [a0, a1, a2, a3] S0 Q := fn_ok w0 Try.func32 (by kernel_rfl) (by rw [G32_eq]; exact h)
def G33 (Ca : Nat → List AV → St → (AV → St → Prop) → Prop) (a0 a1 a2 a3 : AV) (S0 : St) (Q : AV → St → Prop) : Prop :=
    optK (elemVals 1 []) fun e11 =>
    optK (binA .lss (AV.strip a2) (.int .i64 0)) fun t13 =>
    ifK t13
    (optK (some (.str [])) fun rr =>
      Q rr S0)
    (joinK (fun (x9 : AV) (S_3 : St) =>
        optK (convBytesA (AV.strip x9)) fun t35 =>
        optK (some t35) fun rr =>
        Q rr S_3) fun j_2 =>
      loopQ ([(.vs 1 e11 .full), (.int .i64 0)], []) (fun v bx => ([v 9, v 10], [])) (fun nx v bx S =>
        optK (binA .lss (AV.strip (v 10)) (AV.strip a3)) fun t16 =>
        joinK (fun (x22 : AV) =>
          optK (pickA (AV.strip t16) x22 (.bool false)) fun t23 =>
          ifK (AV.strip t23)
          (optK (binA .add (AV.strip a2) (AV.strip (v 10))) fun t30 =>
            callK Ca 48 [(AV.strip a1), t30] S fun t31 S_2 =>
            optK (elemVals 1 [t31]) fun e32 =>
            optK (appendA T5 S_2 (v 9) (.vs 1 e32 .full)) fun t33 =>
            optK (binA .add (AV.strip (v 10)) (.int .i64 1)) fun t25 =>
            nx ([t33, t25], []) S_2)
          (j_2 (v 9) S)) fun j =>
        ifK (AV.strip t16)
        (optK (binA .sub (AV.strip a0) (AV.strip a2)) fun t21 =>
          optK (binA .lss (AV.strip (v 10)) t21) fun t22 =>
          j t22)
        (j (.tup []))) S0)
theorem G33_eq (Ca) (a0 a1 a2 a3 S0 Q) : WF C Ca 33 (Drw C Ca 33) Try.f33 [a0, a1, a2, a3] S0 Q = G33 Ca a0 a1 a2 a3 S0 Q := by kernel_rfl
theorem G33_ok {w0 : World} {a0 a1 a2 a3 : AV} {S0 : St} {Q : AV → St → Prop} (h : G33 (ACalls (En w0)) a0 a1 a2 a3 S0 Q) : ACalls (En w0) 33 [a0, a1, a2, a3] S0 Q := fn_ok w0 Try.func33 (by kernel_rfl) (by rw [G33_eq]; exact h)
def G34 (Ca : Nat → List AV → St → (AV → St → Prop) → Prop) (a0 : AV) (S0 : St) (Q : AV → St → Prop) : Prop :=
    joinK (fun (x3_2 : AV) (S_4 : St) =>
      optK (some (AV.strip x3_2)) fun rr =>
      Q rr S_4) fun j_4 =>
    loopQ ([a0, (.vs 2 [] .nil), (.int .i64 0)], []) (fun v bx => ([v 0, v 3, v 4], [])) (fun nx v bx S =>
      optK (lenStrA (AV.strip (v 0))) fun t8 =>
      optK (binA .lss (AV.strip (v 4)) t8) fun t9 =>
      ifK t9
      (joinK (fun (x5 : AV) (S_3 : St) =>
          joinK (fun (x0 : AV) (x3 : AV) =>
            optK (binA .add (AV.strip x5) (.int .i64 1)) fun t36 =>
            nx ([x0, x3, t36], []) S_3) fun j_2 =>
          optK (binA .gtr (AV.strip x5) (AV.strip (v 4))) fun t25 =>
          ifK t25
          (optK (cutStrA (v 0) (some (AV.strip (v 4))) (some (AV.strip x5))) fun t31 =>
            optK (buildA T62 1 [(0, (AV.strip (v 4))), (1, t31)]) fun t32 =>
            optK (elemVals 2 [t32]) fun e33 =>
            optK (appendA T62 S_3 (v 3) (.vs 2 e33 .full)) fun t34 =>
            j_2 (AV.strip (v 0)) t34)
          (j_2 (v 0) (v 3))) fun j_3 =>
        loopQ ([(AV.strip (v 4))], []) (fun v_2 bx_2 => ([v_2 5], [])) (fun nx_2 v_2 bx_2 S_2 =>
          optK (lenStrA (AV.strip (v 0))) fun t13 =>
          optK (binA .lss (AV.strip (v_2 5)) t13) fun t14 =>
          joinK (fun (x19 : AV) =>
            optK (pickA (AV.strip t14) x19 (.bool false)) fun t20 =>
            ifK (AV.strip t20)
            (optK (binA .add (AV.strip (v_2 5)) (.int .i64 1)) fun t22 =>
              nx_2 ([t22], []) S_2)
            (j_3 (v_2 5) S_2)) fun j =>
          ifK (AV.strip t14)
          (optK (charA (AV.strip (v 0)) (AV.strip (v_2 5))) fun t18 =>
            optK (binA .neq t18 (.int .u8 0)) fun t19 =>
            j t19)
          (j (.tup []))) S)
      (j_4 (v 3) S)) S0
theorem G34_eq (Ca) (a0 S0 Q) : WF C Ca 34 (Drw C Ca 34) Try.f34 [a0] S0 Q = G34 Ca a0 S0 Q := by kernel_rfl
theorem G34_ok {w0 : World} {a0 : AV} {S0 : St} {Q : AV → St → Prop} (h : G34 (ACalls (En w0)) a0 S0 Q) : ACalls (En w0) 34 [a0] S0 Q := fn_ok w0 Try.func34 (by kernel_rfl) (by rw [G34_eq]; exact h)
def G35 (Ca : Nat → List AV → St → (AV → St → Prop) → Prop) (a0 a1 : AV) (S0 : St) (Q : AV → St → Prop) : Prop :=
    joinK (fun (S_2 : St) =>
      optK (some (.int .i64 (-1))) fun rr =>
      Q rr S_2) fun j =>
    optK (nilA (AV.strip a0)) fun t8 =>
    optK (movePtr t8 2) fun t9 =>
    optK (loadA T25 S0 t9) fun t10 =>
    optK (lenSlA (AV.strip t10)) fun t11 =>
    loopQ ([(.int .i64 0)], []) (fun v bx => ([v 12], [])) (fun nx v bx S =>
      optK (binA .lss (v 12) t11) fun t13 =>
      ifK t13
      (optK (idxSlA T3 (AV.strip t10) (v 12)) fun t15 =>
        optK (loadA T3 S t15) fun t16 =>
        optK (binA .eql (AV.strip (AV.strip t16)) (AV.strip a1)) fun t19 =>
        ifK t19
        (optK (some (AV.strip (AV.strip (v 12)))) fun rr =>
          Q rr S)
        (optK (binA .add (v 12) (.int .i64 1)) fun t21 =>
          nx ([(AV.strip t21)], []) S))
      (j S)) S0
theorem G35_eq (Ca) (a0 a1 S0 Q) : WF C Ca 35 (Drw C Ca 35) Try.f35 [a0, a1] S0 Q = G35 Ca a0 a1 S0 Q := by kernel_rfl
theorem G35_ok {w0 : World} {a0 a1 : AV} {S0 : St} {Q : AV → St → Prop} (h : G35 (ACalls (En w0)) a0 a1 S0 Q) : ACalls (En w0) 35 [a0, a1] S0 Q := fn_ok w0 Try.func35 (by kernel_rfl) (by rw [G35_eq]; exact h)
def G36 (Ca : Nat → List AV → St → (AV → St → Prop) → Prop) (a0 a1 : AV) (S0 : St) (Q : AV → St → Prop) : Prop :=
    joinK (fun (S_2 : St) =>
      optK (some (.bool false)) fun rr =>
      Q rr S_2) fun j =>
    loopQ ([(.int .i64 0)], []) (fun v bx => ([v 5], [])) (fun nx v bx S =>
      optK (lenSlA (AV.strip a0)) fun t8 =>
      optK (binA .lss (AV.strip (v 5)) t8) fun t9 =>
      ifK t9
      (optK (idxSlA T3 (AV.strip a0) (AV.strip (v 5))) fun t14 =>
        optK (loadA T3 S t14) fun t15 =>
        optK (binA .eql (AV.strip t15) (AV.strip a1)) fun t17 =>
        ifK t17
        (optK (some (.bool true)) fun rr =>
          Q rr S)
        (optK (binA .add (AV.strip (v 5)) (.int .i64 1)) fun t11 =>
          nx ([t11], []) S))
      (j S)) S0
theorem G36_eq (Ca) (a0 a1 S0 Q) : WF C Ca 36 (Drw C Ca 36) Try.f36 [a0, a1] S0 Q = G36 Ca a0 a1 S0 Q := by kernel_rfl
theorem G36_ok {w0 : World} {a0 a1 : AV} {S0 : St} {Q : AV → St → Prop} (h : G36 (ACalls (En w0)) a0 a1 S0 Q) : ACalls (En w0) 36 [a0, a1] S0 Q := fn_ok w0 Try.func36 (by kernel_rfl) (by rw [G36_eq]; exact h)
def G37 (Ca : Nat → List AV → St → (AV → St → Prop) → Prop) (a0 a1 : AV) (S0 : St) (Q : AV → St → Prop) : Prop :=
    optK (elemVals 1 []) fun e7 =>
    joinK (fun (x5_2 : AV) (S_2 : St) =>
      optK (some (AV.strip x5_2)) fun rr =>
      Q rr S_2) fun j_2 =>
    loopQ ([(.vs 1 e7 .full), (.int .i64 0)], []) (fun v bx => ([v 5, v 6], [])) (fun nx v bx S =>
      optK (lenSlA (AV.strip a0)) fun t10 =>
      optK (binA .lss (AV.strip (v 6)) t10) fun t11 =>
      ifK t11
      (joinK (fun (x5 : AV) =>
          optK (binA .add (AV.strip (v 6)) (.int .i64 1)) fun t13 =>
          nx ([x5, t13], []) S) fun j =>
        optK (idxSlA T3 (AV.strip a0) (AV.strip (v 6))) fun t16 =>
        optK (loadA T3 S t16) fun t17 =>
        optK (binA .neq (AV.strip t17) (AV.strip a1)) fun t19 =>
        ifK t19
        (optK (idxSlA T3 (AV.strip a0) (AV.strip (v 6))) fun t23 =>
          optK (loadA T3 S t23) fun t24 =>
          optK (elemVals 1 [(AV.strip t24)]) fun e25 =>
          optK (appendA T3 S (v 5) (.vs 1 e25 .full)) fun t26 =>
          j t26)
        (j (v 5)))
      (j_2 (v 5) S)) S0
theorem G37_eq (Ca) (a0 a1 S0 Q) : WF C Ca 37 (Drw C Ca 37) Try.f37 [a0, a1] S0 Q = G37 Ca a0 a1 S0 Q := by kernel_rfl
theorem G37_ok {w0 : World} {a0 a1 : AV} {S0 : St} {Q : AV → St → Prop} (h : G37 (ACalls (En w0)) a0 a1 S0 Q) : ACalls (En w0) 37 [a0, a1] S0 Q := fn_ok w0 Try.func37 (by kernel_rfl) (by rw [G37_eq]; exact h)
def G38 (Ca : Nat → List AV → St → (AV → St → Prop) → Prop) (a0 a1 : AV) (S0 : St) (Q : AV → St → Prop) : Prop :=
    joinK (fun (S_2 : St) =>
      optK (lenStrA (AV.strip a0)) fun t33 =>
      optK (lenStrA (AV.strip a1)) fun t35 =>
      optK (binA .lss t33 t35) fun t36 =>
      optK (some t36) fun rr =>
      Q rr S_2) fun j_2 =>
    loopQ ([(.int .i64 0)], []) (fun v bx => ([v 5], [])) (fun nx v bx S =>
      optK (lenStrA (AV.strip a0)) fun t8 =>
      optK (binA .lss (AV.strip (v 5)) t8) fun t9 =>
      joinK (fun (x14 : AV) =>
        optK (pickA (AV.strip t9) x14 (.bool false)) fun t15 =>
        ifK (AV.strip t15)
        (optK (charA (AV.strip a0) (AV.strip (v 5))) fun t20 =>
          optK (charA (AV.strip a1) (AV.strip (v 5))) fun t23 =>
          optK (binA .neq t20 t23) fun t24 =>
          ifK t24
          (optK (charA (AV.strip a0) (AV.strip (v 5))) fun t27 =>
            optK (charA (AV.strip a1) (AV.strip (v 5))) fun t30 =>
            optK (binA .lss t27 t30) fun t31 =>
            optK (some t31) fun rr =>
            Q rr S)
          (optK (binA .add (AV.strip (v 5)) (.int .i64 1)) fun t17 =>
            nx ([t17], []) S))
        (j_2 S)) fun j =>
      ifK (AV.strip t9)
      (optK (lenStrA (AV.strip a1)) fun t13 =>
        optK (binA .lss (AV.strip (v 5)) t13) fun t14 =>
        j t14)
      (j (.tup []))) S0
theorem G38_eq (Ca) (a0 a1 S0 Q) : WF C Ca 38 (Drw C Ca 38) Try.f38 [a0, a1] S0 Q = G38 Ca a0 a1 S0 Q := by kernel_rfl
theorem G38_ok {w0 : World} {a0 a1 : AV} {S0 : St} {Q : AV → St → Prop} (h : G38 (ACalls (En w0)) a0 a1 S0 Q) : ACalls (En w0) 38 [a0, a1] S0 Q := fn_ok w0 Try.func38 (by kernel_rfl) (by rw [G38_eq]; exact h)
def G39 (Ca : Nat → List AV → St → (AV → St → Prop) → Prop) (a0 a1 : AV) (S0 : St) (Q : AV → St → Prop) : Prop :=
    optK (boxA T48 a0) fun c2 =>
    optK (boxA T48 a1) fun c3 =>
    optK (some c2) fun _ =>
    optK (lloadA T9 (some c2) 0) fun t6 =>
    optK (some c3) fun _ =>
    optK (lloadA T9 (some c3) 0) fun t8 =>
    optK (binA .neq (AV.strip t6) (AV.strip t8)) fun t9 =>
    ifK t9
    (optK (some c2) fun _ =>
      optK (lloadA T9 (some c2) 0) fun t11 =>
      optK (some c3) fun _ =>
      optK (lloadA T9 (some c3) 0) fun t13 =>
      optK (binA .lss (AV.strip t11) (AV.strip t13)) fun t14 =>
      optK (some t14) fun rr =>
      Q rr S0)
    (optK (some c2) fun _ =>
      optK (lloadA T3 (some c2) 1) fun t16 =>
      optK (some c3) fun _ =>
      optK (lloadA T3 (some c3) 1) fun t18 =>
      optK (binA .lss (AV.strip t16) (AV.strip t18)) fun t19 =>
      optK (some t19) fun rr =>
      Q rr S0)
theorem G39_eq (Ca) (a0 a1 S0 Q) : WF C Ca 39 (Drw C Ca 39) Try.f39 [a0, a1] S0 Q = G39 Ca a0 a1 S0 Q := by kernel_rfl
theorem G39_ok {w0 : World} {a0 a1 : AV} {S0 : St} {Q : AV → St → Prop} (h : G39 (ACalls (En w0)) a0 a1 S0 Q) : ACalls (En w0) 39 [a0, a1] S0 Q := fn_ok w0 Try.func39 (by kernel_rfl) (by rw [G39_eq]; exact h)
def G40 (Ca : Nat → List AV → St → (AV → St → Prop) → Prop) (a0 : AV) (S0 : St) (Q : AV → St → Prop) : Prop :=
    optK (invokeA C (AV.strip a0) "Len" []) fun a =>
    Ca a.1 a.2 S0 fun t5 S =>
    optK (binA .quo (AV.strip t5) (.int .i64 2)) fun t7 =>
    optK (binA .sub t7 (.int .i64 1)) fun t8 =>
    loopQ ([t8], []) (fun v bx => ([v 3], [])) (fun nx v bx S_2 =>
      optK (binA .geq (AV.strip (v 3)) (.int .i64 0)) fun t10 =>
      ifK t10
      (callK Ca 49 [(AV.strip a0), (AV.strip (v 3)), (AV.strip t5)] S_2 fun t16 S_3 =>
        optK (binA .sub (AV.strip (v 3)) (.int .i64 1)) fun t12 =>
        nx ([t12], []) S_3)
      (Q (.tup []) S_2)) S
theorem G40_eq (Ca) (a0 S0 Q) : WF C Ca 40 (Drw C Ca 40) Try.f40 [a0] S0 Q = G40 Ca a0 S0 Q := by kernel_rfl
theorem G40_ok {w0 : World} {a0 : AV} {S0 : St} {Q : AV → St → Prop} (h : G40 (ACalls (En w0)) a0 S0 Q) : ACalls (En w0) 40 [a0] S0 Q := fn_ok w0 Try.func40 (by kernel_rfl) (by rw [G40_eq]; exact h)
def G41 (Ca : Nat → List AV → St → (AV → St → Prop) → Prop) (a0 : AV) (S0 : St) (Q : AV → St → Prop) : Prop :=
    optK (nilA (AV.strip a0)) fun t4 =>
    optK (movePtr t4 0) fun t5 =>
    optK (loadA T74 S0 t5) fun t6 =>
    optK (lenSlA (AV.strip t6)) fun t7 =>
    optK (some t7) fun rr =>
    Q rr S0
theorem G41_eq (Ca) (a0 S0 Q) : WF C Ca 41 (Drw C Ca 41) Try.f41 [a0] S0 Q = G41 Ca a0 S0 Q := by kernel_rfl
theorem G41_ok {w0 : World} {a0 : AV} {S0 : St} {Q : AV → St → Prop} (h : G41 (ACalls (En w0)) a0 S0 Q) : ACalls (En w0) 41 [a0] S0 Q := fn_ok w0 Try.func41 (by kernel_rfl) (by rw [G41_eq]; exact h)
def G42 (Ca : Nat → List AV → St → (AV → St → Prop) → Prop) (a0 : AV) (S0 : St) (Q : AV → St → Prop) : Prop :=
    optK (invokeA C (AV.strip a0) "Len" []) fun a =>
    Ca a.1 a.2 S0 fun t5 S =>
    optK (binA .sub t5 (.int .i64 1)) fun t6 =>
    optK (invokeA C (AV.strip a0) "Swap" [(.int .i64 0), (AV.strip t6)]) fun a_2 =>
    Ca a_2.1 a_2.2 S fun t9 S_2 =>
    callK Ca 49 [(AV.strip a0), (.int .i64 0), (AV.strip t6)] S_2 fun t12 S_3 =>
    optK (invokeA C (AV.strip a0) "Pop" []) fun a_3 =>
    Ca a_3.1 a_3.2 S_3 fun t14 S_4 =>
    optK (some t14) fun rr =>
    Q rr S_4
theorem G42_eq (Ca) (a0 S0 Q) : WF C Ca 42 (Drw C Ca 42) Try.f42 [a0] S0 Q = G42 Ca a0 S0 Q := by kernel_rfl
theorem G42_ok {w0 : World} {a0 : AV} {S0 : St} {Q : AV → St → Prop} (h : G42 (ACalls (En w0)) a0 S0 Q) : ACalls (En w0) 42 [a0] S0 Q := fn_ok w0 Try.func42 (by kernel_rfl) (by rw [G42_eq]; exact h)
def G43 (Ca : Nat → List AV → St → (AV → St → Prop) → Prop) (a0 a1 : AV) (S0 : St) (Q : AV → St → Prop) : Prop :=
    optK (invokeA C (AV.strip a0) "Len" []) fun a =>
    Ca a.1 a.2 S0 fun t7 S =>
    callK Ca 49 [(AV.strip a0), (AV.strip a1), t7] S fun t8 S_2 =>
    optK (unA .not t8) fun t9 =>
    ifK t9
    (callK Ca 50 [(AV.strip a0), (AV.strip a1)] S_2 fun t12 S_3 =>
      Q (.tup []) S_3)
    (Q (.tup []) S_2)
theorem G43_eq (Ca) (a0 a1 S0 Q) : WF C Ca 43 (Drw C Ca 43) Try.f43 [a0, a1] S0 Q = G43 Ca a0 a1 S0 Q := by kernel_rfl
theorem G43_ok {w0 : World} {a0 a1 : AV} {S0 : St} {Q : AV → St → Prop} (h : G43 (ACalls (En w0)) a0 a1 S0 Q) : ACalls (En w0) 43 [a0, a1] S0 Q := fn_ok w0 Try.func43 (by kernel_rfl) (by rw [G43_eq]; exact h)
def G44 (Ca : Nat → List AV → St → (AV → St → Prop) → Prop) (a0 : AV) (S0 : St) (Q : AV → St → Prop) : Prop :=
    optK (nilA (AV.strip a0)) fun t4 =>
    optK (movePtr t4 1) fun t5 =>
    optK (loadA T84 S0 t5) fun t6 =>
    optK (lenSlA (AV.strip t6)) fun t7 =>
    optK (some t7) fun rr =>
    Q rr S0
theorem G44_eq (Ca) (a0 S0 Q) : WF C Ca 44 (Drw C Ca 44) Try.f44 [a0] S0 Q = G44 Ca a0 S0 Q := by kernel_rfl
theorem G44_ok {w0 : World} {a0 : AV} {S0 : St} {Q : AV → St → Prop} (h : G44 (ACalls (En w0)) a0 S0 Q) : ACalls (En w0) 44 [a0] S0 Q := fn_ok w0 Try.func44 (by kernel_rfl) (by rw [G44_eq]; exact h)
def G45 (Ca : Nat → List AV → St → (AV → St → Prop) → Prop) (a0 a1 : AV) (S0 : St) (Q : AV → St → Prop) : Prop :=
    callK Ca 51 [(AV.strip a0)] S0 fun t7 S =>
    optK (nilA (AV.strip a0)) fun t10 =>
    optK (movePtr t10 1) fun t11 =>
    optK (loadA T84 S t11) fun t12 =>
    optK (appendA T5 (stripMem S t11) (AV.strip0 t12) (AV.strip a1)) fun t14 =>
    optK (nilA (AV.strip a0)) fun t15 =>
    optK (movePtr t15 1) fun t16 =>
    optK (storeA T84 (stripMem S t11) t16 t14) fun S_2 =>
    optK (lenStrA (AV.strip a1)) fun t18 =>
    optK (some t18) fun r4 =>
    optK (some .nilifc) fun r5 =>
    Q (.tup [(AV.flat r4), (AV.flat r5)]) S_2
theorem G45_eq (Ca) (a0 a1 S0 Q) : WF C Ca 45 (Drw C Ca 45) Try.f45 [a0, a1] S0 Q = G45 Ca a0 a1 S0 Q := by kernel_rfl
theorem G45_ok {w0 : World} {a0 a1 : AV} {S0 : St} {Q : AV → St → Prop} (h : G45 (ACalls (En w0)) a0 a1 S0 Q) : ACalls (En w0) 45 [a0, a1] S0 Q := fn_ok w0 Try.func45 (by kernel_rfl) (by rw [G45_eq]; exact h)
def G48 (Ca : Nat → List AV → St → (AV → St → Prop) → Prop) (a0 a1 : AV) (S0 : St) (Q : AV → St → Prop) : Prop :=
    joinK (fun (S_2 : St) =>
      optK (some (.int .u8 0)) fun rr =>
      Q rr S_2) fun j_2 =>
    loopQ ([(.int .i64 0)], []) (fun v bx => ([v 5], [])) (fun nx v bx S =>
      optK (lenSlA (AV.strip a0)) fun t8 =>
      optK (binA .lss (AV.strip (v 5)) t8) fun t9 =>
      ifK t9
      (optK (idxSlA T62 (AV.strip a0) (AV.strip (v 5))) fun t15 =>
        optK (movePtr t15 0) fun t16 =>
        optK (loadA T3 S t16) fun t17 =>
        optK (binA .geq (AV.strip a1) (AV.strip t17)) fun t18 =>
        joinK (fun (x33 : AV) =>
          optK (pickA (AV.strip t18) x33 (.bool false)) fun t34 =>
          ifK (AV.strip t34)
          (optK (idxSlA T62 (AV.strip a0) (AV.strip (v 5))) fun t37 =>
            optK (movePtr t37 1) fun t38 =>
            optK (loadA T9 S t38) fun t39 =>
            optK (idxSlA T62 (AV.strip a0) (AV.strip (v 5))) fun t43 =>
            optK (movePtr t43 0) fun t44 =>
            optK (loadA T3 S t44) fun t45 =>
            optK (binA .sub (AV.strip a1) (AV.strip t45)) fun t46 =>
            optK (charA (AV.strip t39) t46) fun t47 =>
            optK (some t47) fun rr =>
            Q rr S)
          (optK (binA .add (AV.strip (v 5)) (.int .i64 1)) fun t11 =>
            nx ([t11], []) S)) fun j =>
        ifK (AV.strip t18)
        (optK (idxSlA T62 (AV.strip a0) (AV.strip (v 5))) fun t23 =>
          optK (movePtr t23 0) fun t24 =>
          optK (loadA T3 S t24) fun t25 =>
          optK (idxSlA T62 (AV.strip a0) (AV.strip (v 5))) fun t28 =>
          optK (movePtr t28 1) fun t29 =>
          optK (loadA T9 S t29) fun t30 =>
          optK (lenStrA (AV.strip t30)) fun t31 =>
          optK (binA .add (AV.strip t25) t31) fun t32 =>
          optK (binA .lss (AV.strip a1) t32) fun t33 =>
          j t33)
        (j (.tup [])))
      (j_2 S)) S0
theorem G48_eq (Ca) (a0 a1 S0 Q) : WF C Ca 48 (Drw C Ca 48) Try.f48 [a0, a1] S0 Q = G48 Ca a0 a1 S0 Q := by kernel_rfl
theorem G48_ok {w0 : World} {a0 a1 : AV} {S0 : St} {Q : AV → St → Prop} (h : G48 (ACalls (En w0)) a0 a1 S0 Q) : ACalls (En w0) 48 [a0, a1] S0 Q := fn_ok w0 Try.func48 (by kernel_rfl) (by rw [G48_eq]; exact h)
def G49 (Ca : Nat → List AV → St → (AV → St → Prop) → Prop) (a0 a1 a2 : AV) (S0 : St) (Q : AV → St → Prop) : Prop :=
    joinK (fun (x7 : AV) (S_7 : St) =>
      optK (binA .gtr (AV.strip x7) (AV.strip a1)) fun t47 =>
      optK (some t47) fun rr =>
      Q rr S_7) fun j_4 =>
    loopQ ([(AV.strip a1)], []) (fun v bx => ([v 7], [])) (fun nx v bx S =>
      optK (binA .mul (.int .i64 2) (AV.strip (v 7))) fun t13 =>
      optK (binA .add t13 (.int .i64 1)) fun t14 =>
      optK (binA .geq (AV.strip t14) (AV.strip a2)) fun t17 =>
      joinK (fun (x20 : AV) =>
        optK (pickA (AV.strip t17) (.bool true) x20) fun t21 =>
        ifK (AV.strip t21)
        (j_4 (v 7) S)
        (joinK (fun (x9 : AV) (S_4 : St) =>
            optK (invokeA C (AV.strip a0) "Less" [(AV.strip x9), (AV.strip (v 7))]) fun a_2 =>
            Ca a_2.1 a_2.2 S_4 fun t38 S_5 =>
            optK (unA .not t38) fun t39 =>
            ifK t39
            (j_4 (v 7) S_5)
            (optK (invokeA C (AV.strip a0) "Swap" [(AV.strip (v 7)), (AV.strip x9)]) fun a_3 =>
              Ca a_3.1 a_3.2 S_5 fun t43 S_6 =>
              nx ([(AV.strip x9)], []) S_6)) fun j_3 =>
          optK (binA .add (AV.strip t14) (.int .i64 1)) fun t24 =>
          optK (binA .lss (AV.strip t24) (AV.strip a2)) fun t27 =>
          joinK (fun (x32 : AV) (S_3 : St) =>
            optK (pickA (AV.strip t27) x32 (.bool false)) fun t33 =>
            ifK (AV.strip t33)
            (j_3 (AV.strip t24) S_3)
            (j_3 (AV.strip t14) S_3)) fun j_2 =>
          ifK (AV.strip t27)
          (optK (invokeA C (AV.strip a0) "Less" [(AV.strip t24), (AV.strip t14)]) fun a =>
            Ca a.1 a.2 S fun t32 S_2 =>
            j_2 t32 S_2)
          (j_2 (.tup []) S))) fun j =>
      ifK (AV.strip t17)
      (j (.tup []))
      (optK (binA .lss (AV.strip t14) (.int .i64 0)) fun t20 =>
        j t20)) S0
theorem G49_eq (Ca) (a0 a1 a2 S0 Q) : WF C Ca 49 (Drw C Ca 49) Try.f49 [a0, a1, a2] S0 Q = G49 Ca a0 a1 a2 S0 Q := by kernel_rfl
theorem G49_ok {w0 : World} {a0 a1 a2 : AV} {S0 : St} {Q : AV → St → Prop} (h : G49 (ACalls (En w0)) a0 a1 a2 S0 Q) : ACalls (En w0) 49 [a0, a1, a2] S0 Q := fn_ok w0 Try.func49 (by kernel_rfl) (by rw [G49_eq]; exact h)
def G50 (Ca : Nat → List AV → St → (AV → St → Prop) → Prop) (a0 a1 : AV) (S0 : St) (Q : AV → St → Prop) : Prop :=
    loopQ ([a1], []) (fun v bx => ([v 1], [])) (fun nx v bx S =>
      optK (binA .sub (AV.strip (v 1)) (.int .i64 1)) fun t6 =>
      optK (binA .quo t6 (.int .i64 2)) fun t7 =>
      optK (binA .eql (AV.strip t7) (AV.strip (v 1))) fun t10 =>
      joinK (fun (x16 : AV) (S_3 : St) =>
        optK (pickA (AV.strip t10) (.bool true) x16) fun t17 =>
        ifK (AV.strip t17)
        (Q (.tup []) S_3)
        (optK (invokeA C (AV.strip a0) "Swap" [(AV.strip t7), (AV.strip (v 1))]) fun a_2 =>
          Ca a_2.1 a_2.2 S_3 fun t21 S_4 =>
          nx ([(AV.strip t7)], []) S_4)) fun j =>
      ifK (AV.strip t10)
      (j (.tup []) S)
      (optK (invokeA C (AV.strip a0) "Less" [(AV.strip (v 1)), (AV.strip t7)]) fun a =>
        Ca a.1 a.2 S fun t15 S_2 =>
        optK (unA .not t15) fun t16 =>
        j t16 S_2)) S0
theorem G50_eq (Ca) (a0 a1 S0 Q) : WF C Ca 50 (Drw C Ca 50) Try.f50 [a0, a1] S0 Q = G50 Ca a0 a1 S0 Q := by kernel_rfl
theorem G50_ok {w0 : World} {a0 a1 : AV} {S0 : St} {Q : AV → St → Prop} (h : G50 (ACalls (En w0)) a0 a1 S0 Q) : ACalls (En w0) 50 [a0, a1] S0 Q := fn_ok w0 Try.func50 (by kernel_rfl) (by rw [G50_eq]; exact h)
def G52 (Ca : Nat → List AV → St → (AV → St → Prop) → Prop) (a0 a1 : AV) (S0 : St) (Q : AV → St → Prop) : Prop :=
    ifK (.bool false)
    (optK (convIntA .u32 (AV.strip a0)) fun t12 =>
      optK (convIntA .u32 (AV.strip a1)) fun t14 =>
      callK Ca 56 [t12, t14] S0 fun t15 S =>
      optK (extractA t15 0) fun t16 =>
      optK (extractA (stripTup t15 0) 1) fun t17 =>
      optK (convIntA .u64 (AV.strip t16)) fun t19 =>
      optK (convIntA .u64 (AV.strip t17)) fun t21 =>
      optK (some t19) fun r4 =>
      optK (some t21) fun r5 =>
      Q (.tup [(AV.flat r4), (AV.flat r5)]) S)
    (callK Ca 57 [(AV.strip a0), (AV.strip a1)] S0 fun t25 S_2 =>
      optK (extractA t25 0) fun t26 =>
      optK (extractA (stripTup t25 0) 1) fun t27 =>
      optK (some (AV.strip t26)) fun r4_2 =>
      optK (some (AV.strip t27)) fun r5_2 =>
      Q (.tup [(AV.flat r4_2), (AV.flat r5_2)]) S_2)
theorem G52_eq (Ca) (a0 a1 S0 Q) : WF C Ca 52 (Drw C Ca 52) Try.f52 [a0, a1] S0 Q = G52 Ca a0 a1 S0 Q := by kernel_rfl
theorem G52_ok {w0 : World} {a0 a1 : AV} {S0 : St} {Q : AV → St → Prop} (h : G52 (ACalls (En w0)) a0 a1 S0 Q) : ACalls (En w0) 52 [a0, a1] S0 Q := fn_ok w0 Try.func52 (by kernel_rfl) (by rw [G52_eq]; exact h)
def G53 (Ca : Nat → List AV → St → (AV → St → Prop) → Prop) (a0 a1 : AV) (S0 : St) (Q : AV → St → Prop) : Prop :=
    callK Ca 58 [(AV.strip a0), (AV.strip a1)] S0 fun t7 S =>
    optK (some t7) fun rr =>
    Q rr S
theorem G53_eq (Ca) (a0 a1 S0 Q) : WF C Ca 53 (Drw C Ca 53) Try.f53 [a0, a1] S0 Q = G53 Ca a0 a1 S0 Q := by kernel_rfl
theorem G53_ok {w0 : World} {a0 a1 : AV} {S0 : St} {Q : AV → St → Prop} (h : G53 (ACalls (En w0)) a0 a1 S0 Q) : ACalls (En w0) 53 [a0, a1] S0 Q := fn_ok w0 Try.func53 (by kernel_rfl) (by rw [G53_eq]; exact h)
def G56 (Ca : Nat → List AV → St → (AV → St → Prop) → Prop) (a0 a1 : AV) (S0 : St) (Q : AV → St → Prop) : Prop :=
    optK (convIntA .u64 (AV.strip a0)) fun t8 =>
    optK (convIntA .u64 (AV.strip a1)) fun t10 =>
    optK (binA .mul t8 t10) fun t11 =>
    optK (binA .shr (AV.strip t11) (.int .u64 32)) fun t13 =>
    optK (convIntA .u32 t13) fun t14 =>
    optK (convIntA .u32 (AV.strip t11)) fun t16 =>
    optK (some t14) fun r4 =>
    optK (some t16) fun r5 =>
    Q (.tup [(AV.flat r4), (AV.flat r5)]) S0
theorem G56_eq (Ca) (a0 a1 S0 Q) : WF C Ca 56 (Drw C Ca 56) Try.f56 [a0, a1] S0 Q = G56 Ca a0 a1 S0 Q := by kernel_rfl
theorem G56_ok {w0 : World} {a0 a1 : AV} {S0 : St} {Q : AV → St → Prop} (h : G56 (ACalls (En w0)) a0 a1 S0 Q) : ACalls (En w0) 56 [a0, a1] S0 Q := fn_ok w0 Try.func56 (by kernel_rfl) (by rw [G56_eq]; exact h)
def G57 (Ca : Nat → List AV → St → (AV → St → Prop) → Prop) (a0 a1 : AV) (S0 : St) (Q : AV → St → Prop) : Prop :=
    optK (binA .and (AV.strip a0) (.int .u64 4294967295)) fun t15 =>
    optK (binA .shr (AV.strip a0) (.int .u64 32)) fun t17 =>
    optK (binA .and (AV.strip a1) (.int .u64 4294967295)) fun t19 =>
    optK (binA .shr (AV.strip a1) (.int .u64 32)) fun t21 =>
    optK (binA .mul (AV.strip t15) (AV.strip t19)) fun t24 =>
    optK (binA .mul (AV.strip t17) (AV.strip t19)) fun t27 =>
    optK (binA .shr (AV.strip t24) (.int .u64 32)) fun t29 =>
    optK (binA .add t27 t29) fun t30 =>
    optK (binA .and (AV.strip t30) (.int .u64 4294967295)) fun t32 =>
    optK (binA .shr (AV.strip t30) (.int .u64 32)) fun t34 =>
    optK (binA .mul (AV.strip t15) (AV.strip t21)) fun t38 =>
    optK (binA .add (AV.strip t32) t38) fun t39 =>
    optK (binA .mul (AV.strip t17) (AV.strip t21)) fun t42 =>
    optK (binA .add t42 (AV.strip t34)) fun t44 =>
    optK (binA .shr (AV.strip t39) (.int .u64 32)) fun t46 =>
    optK (binA .add t44 t46) fun t47 =>
    optK (binA .mul (AV.strip a0) (AV.strip a1)) fun t50 =>
    optK (some t47) fun r4 =>
    optK (some t50) fun r5 =>
    Q (.tup [(AV.flat r4), (AV.flat r5)]) S0
theorem G57_eq (Ca) (a0 a1 S0 Q) : WF C Ca 57 (Drw C Ca 57) Try.f57 [a0, a1] S0 Q = G57 Ca a0 a1 S0 Q := by kernel_rfl
theorem G57_ok {w0 : World} {a0 a1 : AV} {S0 : St} {Q : AV → St → Prop} (h : G57 (ACalls (En w0)) a0 a1 S0 Q) : ACalls (En w0) 57 [a0, a1] S0 Q := fn_ok w0 Try.func57 (by kernel_rfl) (by rw [G57_eq]; exact h)
def G58 (Ca : Nat → List AV → St → (AV → St → Prop) → Prop) (a0 a1 : AV) (S0 : St) (Q : AV → St → Prop) : Prop :=
    optK (lenStrA (AV.strip a0)) fun t6 =>
    optK (lenStrA (AV.strip a1)) fun t8 =>
    optK (binA .geq t6 t8) fun t9 =>
    joinK (fun (x16 : AV) =>
      optK (pickA (AV.strip t9) x16 (.bool false)) fun t17 =>
      optK (some (AV.strip t17)) fun rr =>
      Q rr S0) fun j =>
    ifK (AV.strip t9)
    (optK (lenStrA (AV.strip a1)) fun t13 =>
      optK (cutStrA a0 none (some t13)) fun t14 =>
      optK (binA .eql t14 (AV.strip a1)) fun t16 =>
      j t16)
    (j (.tup []))
theorem G58_eq (Ca) (a0 a1 S0 Q) : WF C Ca 58 (Drw C Ca 58) Try.f58 [a0, a1] S0 Q = G58 Ca a0 a1 S0 Q := by kernel_rfl
theorem G58_ok {w0 : World} {a0 a1 : AV} {S0 : St} {Q : AV → St → Prop} (h : G58 (ACalls (En w0)) a0 a1 S0 Q) : ACalls (En w0) 58 [a0, a1] S0 Q := fn_ok w0 Try.func58 (by kernel_rfl) (by rw [G58_eq]; exact h)
def G77 (Ca : Nat → List AV → St → (AV → St → Prop) → Prop) (a0 a1 a2 : AV) (S0 : St) (Q : AV → St → Prop) : Prop :=
    optK (nilA (AV.strip a0)) fun t8 =>
    optK (movePtr t8 1) fun t9 =>
    optK (loadA T72 S0 t9) fun t10 =>
    optK (nilA (AV.strip a0)) fun t12 =>
    optK (movePtr t12 0) fun t13 =>
    optK (loadA T74 S0 t13) fun t14 =>
    optK (idxSlA T78 (AV.strip t14) (AV.strip a1)) fun t16 =>
    optK (movePtr t16 0) fun t17 =>
    optK (loadA T48 S0 t17) fun t18 =>
    optK (nilA (AV.strip a0)) fun t20 =>
    optK (movePtr t20 0) fun t21 =>
    optK (loadA T74 S0 t21) fun t22 =>
    optK (idxSlA T78 (AV.strip t22) (AV.strip a2)) fun t24 =>
    optK (movePtr t24 0) fun t25 =>
    optK (loadA T48 S0 t25) fun t26 =>
    optK (calleeA (AV.strip t10) [(AV.strip t18), (AV.strip t26)]) fun a =>
    Ca a.1 a.2 S0 fun t27 S =>
    optK (some t27) fun rr =>
    Q rr S
theorem G77_eq (Ca) (a0 a1 a2 S0 Q) : WF C Ca 77 (Drw C Ca 77) Try.f77 [a0, a1, a2] S0 Q = G77 Ca a0 a1 a2 S0 Q := by kernel_rfl
theorem G77_ok {w0 : World} {a0 a1 a2 : AV} {S0 : St} {Q : AV → St → Prop} (h : G77 (ACalls (En w0)) a0 a1 a2 S0 Q) : ACalls (En w0) 77 [a0, a1, a2] S0 Q := fn_ok w0 Try.func77 (by kernel_rfl) (by rw [G77_eq]; exact h)
def G78 (Ca : Nat → List AV → St → (AV → St → Prop) → Prop) (a0 : AV) (S0 : St) (Q : AV → St → Prop) : Prop :=
    optK (nilA (AV.strip a0)) fun t6 =>
    optK (movePtr t6 0) fun t7 =>
    optK (loadA T74 S0 t7) fun t8 =>
    optK (lenSlA (AV.strip t8)) fun t9 =>
    optK (binA .sub t9 (.int .i64 1)) fun t10 =>
    optK (nilA (AV.strip a0)) fun t12 =>
    optK (movePtr t12 0) fun t13 =>
    optK (loadA T74 S0 t13) fun t14 =>
    optK (idxSlA T78 (AV.strip t14) (AV.strip t10)) fun t16 =>
    optK (loadA T78 S0 t16) fun t17 =>
    optK (lstoreA T78 (some T78.zero) 0 (AV.strip t17)) fun b4 =>
    optK (nilA (AV.strip a0)) fun t20 =>
    optK (movePtr t20 0) fun t21 =>
    optK (loadA T74 S0 t21) fun t22 =>
    optK (cutA T78 (AV.strip0 t22) none (some (AV.strip t10)) none) fun t24 =>
    optK (nilA (AV.strip a0)) fun t25 =>
    optK (movePtr t25 0) fun t26 =>
    optK (storeA T74 (stripMem S0 t21) t26 t24) fun S =>
    optK (lloadA T78 (some b4) 0) fun t27 =>
    optK (ifaceA T78 78 (AV.strip t27)) fun t28 =>
    optK (some t28) fun rr =>
    Q rr S
theorem G78_eq (Ca) (a0 S0 Q) : WF C Ca 78 (Drw C Ca 78) Try.f78 [a0] S0 Q = G78 Ca a0 S0 Q := by kernel_rfl
theorem G78_ok {w0 : World} {a0 : AV} {S0 : St} {Q : AV → St → Prop} (h : G78 (ACalls (En w0)) a0 S0 Q) : ACalls (En w0) 78 [a0] S0 Q := fn_ok w0 Try.func78 (by kernel_rfl) (by rw [G78_eq]; exact h)
def G79 (Ca : Nat → List AV → St → (AV → St → Prop) → Prop) (a0 a1 a2 : AV) (S0 : St) (Q : AV → St → Prop) : Prop :=
    optK (nilA (AV.strip a0)) fun t7 =>
    optK (movePtr t7 0) fun t8 =>
    optK (loadA T74 S0 t8) fun t9 =>
    optK (nilA (AV.strip a0)) fun t12 =>
    optK (movePtr t12 0) fun t13 =>
    optK (loadA T74 S0 t13) fun t14 =>
    optK (nilA (AV.strip a0)) fun t17 =>
    optK (movePtr t17 0) fun t18 =>
    optK (loadA T74 S0 t18) fun t19 =>
    optK (idxSlA T78 (AV.strip t19) (AV.strip a2)) fun t21 =>
    optK (loadA T78 S0 t21) fun t22 =>
    optK (nilA (AV.strip a0)) fun t24 =>
    optK (movePtr t24 0) fun t25 =>
    optK (loadA T74 S0 t25) fun t26 =>
    optK (idxSlA T78 (AV.strip t26) (AV.strip a1)) fun t28 =>
    optK (loadA T78 S0 t28) fun t29 =>
    optK (idxSlA T78 (AV.strip t9) (AV.strip a1)) fun t30 =>
    optK (storeA T78 S0 t30 (AV.strip t22)) fun S =>
    optK (idxSlA T78 (AV.strip t14) (AV.strip a2)) fun t31 =>
    optK (storeA T78 S t31 (AV.strip t29)) fun S_2 =>
    Q (.tup []) S_2
theorem G79_eq (Ca) (a0 a1 a2 S0 Q) : WF C Ca 79 (Drw C Ca 79) Try.f79 [a0, a1, a2] S0 Q = G79 Ca a0 a1 a2 S0 Q := by kernel_rfl
theorem G79_ok {w0 : World} {a0 a1 a2 : AV} {S0 : St} {Q : AV → St → Prop} (h : G79 (ACalls (En w0)) a0 a1 a2 S0 Q) : ACalls (En w0) 79 [a0, a1, a2] S0 Q := fn_ok w0 Try.func79 (by kernel_rfl) (by rw [G79_eq]; exact h)
end Go.Av
