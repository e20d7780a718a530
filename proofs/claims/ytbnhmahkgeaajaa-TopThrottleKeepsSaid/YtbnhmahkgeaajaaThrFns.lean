/- The functions of the program in compact form, as 'sfn.py' prints them; each is what 'stripFn' makes of the program's own. -/
import Derived.Test.YtbnhmahkgeaajaaVsLim
import Derived.Test.YtbnhmahkgeaajaaProg
namespace Go.Proofs.Ytbnhmahkgeaajaa
namespace VS

def kd : FuncId → Kind
  | 4 => .pure
  | 9 => .pure
  | 10 => .pure
  | 11 => .pure
  | 12 => .pure
  | 13 => .pure
  | 15 => .pure
  | 16 => .pure
  | 17 => .pure
  | 18 => .pure
  | 19 => .whole
  | 20 => .pure
  | 21 => .pure
  | 22 => .whole
  | 23 => .whole
  | 24 => .whole
  | 25 => .fresh
  | 26 => .whole
  | _ => .plain

/- standby/standbytop.TopThrottleKeeps -/
def s3 : SFn := 
  ⟨.plain, 3, [(.tmp 6)], (.seq [0, 1, 2] (.region [⟨(some 6), none, (.mv (.c (.v (.bool false))))⟩] false) (.seq [0, 1, 2] (.seq [0, 1, 2, 13] (.region [⟨(some 11), none, (.mv (.t 0))⟩,
    ⟨(some 12), none, (.call (.c (.fn 4 [])) [(.t 11)])⟩,
    ⟨(some 13), none, (.un .not (.t 12))⟩] false) (.cond (.t 13) (.seq [6] (.region [⟨(some 14), none, (.call (.c (.fn 5 [])) [])⟩,
    ⟨(some 6), none, (.mv (.t 14))⟩] false) .ret) .skip)) (.seq [0, 2, 7] (.region [⟨(some 15), none, (.mv (.t 1))⟩,
    ⟨(some 16), none, (.bin .rem .none (.t 15) (.c (.v (.int .u8 30))))⟩,
    ⟨(some 17), none, (.conv .i64 (.t 16))⟩,
    ⟨(some 18), none, (.bin .add .none (.t 17) (.c (.v (.int .i64 1))))⟩,
    ⟨(some 7), none, (.mv (.t 18))⟩] false) (.seq [7, 8, 10] (.region [⟨(some 20), none, (.mv (.t 0))⟩,
    ⟨(some 21), none, (.mv (.t 7))⟩,
    ⟨(some 22), none, (.mv (.t 2))⟩,
    ⟨(some 23), none, (.bin .rem .none (.t 22) (.c (.v (.int .u8 20))))⟩,
    ⟨(some 24), none, (.conv .i64 (.t 23))⟩,
    ⟨(some 25), none, (.bin .add .none (.t 24) (.c (.v (.int .i64 1))))⟩,
    ⟨(some 26), none, (.call (.c (.fn 6 [])) [(.t 20), (.t 21), (.t 25)])⟩,
    ⟨(some 19), none, (.mv (.t 26))⟩,
    ⟨(some 27), none, (.extract (.t 19) 0)⟩,
    ⟨(some 28), none, (.extract (.t 19) 1)⟩,
    ⟨(some 29), none, (.extract (.t 19) 2)⟩,
    ⟨(some 8), none, (.mv (.t 27))⟩,
    ⟨(some 9), none, (.mv (.t 28))⟩,
    ⟨(some 10), none, (.mv (.t 29))⟩] false) (.seq [6] (.region [⟨(some 30), none, (.mv (.t 10))⟩,
    ⟨(some 31), none, (.mv (.t 30))⟩,
    ⟨(some 32), (some (31, true)), (.mv (.t 8))⟩,
    ⟨(some 33), (some (31, true)), (.mv (.t 7))⟩,
    ⟨(some 34), (some (31, true)), (.bin .leq .none (.t 32) (.t 33))⟩,
    ⟨(some 35), none, (.pick (.t 31) (.t 34) (.c (.v (.bool false))))⟩,
    ⟨(some 36), none, (.mv (.t 35))⟩,
    ⟨(some 37), (some (36, true)), (.call (.c (.fn 5 [])) [])⟩,
    ⟨(some 38), none, (.pick (.t 36) (.t 37) (.c (.v (.bool false))))⟩,
    ⟨(some 6), none, (.mv (.t 38))⟩] false) .ret)))))⟩
/- standby/standbytop.caseSequence -/
def s4 : SFn := 
  ⟨.pure, 1, [(.tmp 2)], (.seq [0] (.region [⟨(some 2), none, (.mv (.c (.v (.bool false))))⟩] false) (.seq [2] (.region [⟨(some 3), none, (.mv (.t 0))⟩,
    ⟨(some 4), none, (.len (.t 3))⟩,
    ⟨(some 5), none, (.bin .leq .none (.t 4) (.c (.v (.int .i64 40))))⟩,
    ⟨(some 6), none, (.mv (.t 5))⟩,
    ⟨(some 7), (some (6, true)), (.mv (.t 0))⟩,
    ⟨(some 8), (some (6, true)), (.call (.c (.fn 7 [])) [(.t 7), (.c (.fn 8 []))])⟩,
    ⟨(some 9), (some (6, true)), (.un .not (.t 8))⟩,
    ⟨(some 10), none, (.pick (.t 6) (.t 9) (.c (.v (.bool false))))⟩,
    ⟨(some 2), none, (.mv (.t 10))⟩] false) .ret))⟩
/- standby/standbytop.caseThrottled -/
def s5 : SFn := 
  ⟨.plain, 0, [(.tmp 0)], (.seq [] (.region [⟨(some 0), none, (.mv (.c (.v (.bool false))))⟩] false) (.seq [1, 2, 3] (.region [⟨(some 8), none, (.bslice [(.v (.int .i64 0))] 1 [(0, (1, (.c (.v (.int .i64 6)))))])⟩,
    ⟨(some 9), none, (.call (.c (.fn 6 [])) [(.t 8), (.c (.v (.int .i64 3))), (.c (.v (.int .i64 2)))])⟩,
    ⟨(some 7), none, (.mv (.t 9))⟩,
    ⟨(some 10), none, (.extract (.t 7) 0)⟩,
    ⟨(some 11), none, (.extract (.t 7) 1)⟩,
    ⟨(some 12), none, (.extract (.t 7) 2)⟩,
    ⟨(some 1), none, (.mv (.t 10))⟩,
    ⟨(some 2), none, (.mv (.t 11))⟩,
    ⟨(some 3), none, (.mv (.t 12))⟩] false) (.seq [1, 2, 3, 4, 5, 6] (.region [⟨(some 14), none, (.bslice [(.v (.int .i64 0))] 3 [(0, (1, (.c (.v (.int .i64 6))))), (1, (1, (.c (.v (.int .i64 1))))), (2, (1, (.c (.v (.int .i64 5)))))])⟩,
    ⟨(some 15), none, (.call (.c (.fn 6 [])) [(.t 14), (.c (.v (.int .i64 3))), (.c (.v (.int .i64 2)))])⟩,
    ⟨(some 13), none, (.mv (.t 15))⟩,
    ⟨(some 16), none, (.extract (.t 13) 0)⟩,
    ⟨(some 17), none, (.extract (.t 13) 1)⟩,
    ⟨(some 18), none, (.extract (.t 13) 2)⟩,
    ⟨(some 4), none, (.mv (.t 16))⟩,
    ⟨(some 5), none, (.mv (.t 17))⟩,
    ⟨(some 6), none, (.mv (.t 18))⟩] false) (.seq [0] (.region [⟨(some 19), none, (.mv (.t 3))⟩,
    ⟨(some 20), none, (.mv (.t 19))⟩,
    ⟨(some 21), (some (20, true)), (.mv (.t 6))⟩,
    ⟨(some 22), none, (.pick (.t 20) (.t 21) (.c (.v (.bool false))))⟩,
    ⟨(some 23), none, (.mv (.t 22))⟩,
    ⟨(some 24), (some (23, true)), (.mv (.t 2))⟩,
    ⟨(some 25), none, (.pick (.t 23) (.t 24) (.c (.v (.bool false))))⟩,
    ⟨(some 26), none, (.mv (.t 25))⟩,
    ⟨(some 27), (some (26, true)), (.mv (.t 5))⟩,
    ⟨(some 28), (some (26, true)), (.un .not (.t 27))⟩,
    ⟨(some 29), none, (.pick (.t 26) (.t 28) (.c (.v (.bool false))))⟩,
    ⟨(some 30), none, (.mv (.t 29))⟩,
    ⟨(some 31), (some (30, true)), (.mv (.t 1))⟩,
    ⟨(some 32), (some (30, true)), (.bin .leq .none (.t 31) (.c (.v (.int .i64 3))))⟩,
    ⟨(some 33), none, (.pick (.t 30) (.t 32) (.c (.v (.bool false))))⟩,
    ⟨(some 34), none, (.mv (.t 33))⟩,
    ⟨(some 35), (some (34, true)), (.mv (.t 4))⟩,
    ⟨(some 36), (some (34, true)), (.bin .leq .none (.t 35) (.c (.v (.int .i64 3))))⟩,
    ⟨(some 37), none, (.pick (.t 34) (.t 36) (.c (.v (.bool false))))⟩,
    ⟨(some 0), none, (.mv (.t 37))⟩] false) .ret))))⟩
/- standby/standbytop.caseRun -/
def s6b0 : SCode := 
  (.seq [0, 2, 9, 11, 12, 13, 14, 15, 31, 32] (.seq [0, 2, 9, 11, 12, 13, 14, 15, 31, 32, 76] (.region [⟨(some 74), none, (.mv (.t 11))⟩,
    ⟨(some 75), none, (.len (.t 74))⟩,
    ⟨(some 76), none, (.bin .gtr .none (.t 75) (.c (.v (.int .i64 0))))⟩] false) (.cond (.t 76) .skip (.exit 2))) (.block 3 (.seq [0, 2, 9, 11, 12, 13, 14, 15, 17, 18, 19, 31, 32] (.region [⟨(some 78), none, (.load (some 5) (.t 9))⟩,
    ⟨(some 79), none, (.mv (.t 15))⟩,
    ⟨(some 80), none, (.mv (.t 11))⟩,
    ⟨(some 81), none, (.iaddr 1 none (.t 80) (.c (.v (.int .i64 0))))⟩,
    ⟨(some 82), none, (.load none (.t 81))⟩,
    ⟨(some 83), none, (.call (.c (.fn 13 [])) [(.t 78), (.t 79), (.t 82)])⟩,
    ⟨(some 77), none, (.mv (.t 83))⟩,
    ⟨(some 84), none, (.extract (.t 77) 0)⟩,
    ⟨(some 85), none, (.extract (.t 77) 1)⟩,
    ⟨(some 86), none, (.extract (.t 77) 2)⟩,
    ⟨(some 17), none, (.alloc [(.v (.int .i64 0)), (.v (.int .i64 0)), (.v (.int .i64 0)), (.v (.int .i64 0)), (.v (.slice none 0 0))])⟩,
    ⟨none, none, (.store 5 (.t 17) (.t 84))⟩,
    ⟨(some 18), none, (.mv (.t 85))⟩,
    ⟨(some 19), none, (.mv (.t 86))⟩] true) (.seq [0, 2, 9, 11, 12, 13, 14, 15, 17, 18, 19, 31, 32] (.seq [0, 2, 9, 11, 12, 13, 14, 15, 17, 18, 19, 31, 32, 88] (.region [⟨(some 87), none, (.mv (.t 19))⟩,
    ⟨(some 88), none, (.bin .eql .none (.t 87) (.c (.v (.int .i64 21))))⟩] false) (.cond (.t 88) (.seq [0, 2, 9, 11, 12, 13, 14, 15, 31, 32] (.region [⟨(some 89), none, (.mv (.t 11))⟩,
    ⟨(some 90), none, (.slice 1 (.t 89) (some (.c (.v (.int .i64 1)))) none)⟩,
    ⟨(some 13), none, (.mv (.c (.v (.bool false))))⟩,
    ⟨(some 11), none, (.mv (.t 90))⟩] true) (.exit 3)) .skip)) (.seq [0, 2, 9, 11, 12, 13, 14, 15, 17, 18, 31, 32] (.seq [0, 2, 9, 11, 12, 13, 14, 15, 17, 18, 31, 32, 96] (.region [⟨(some 91), none, (.mv (.t 19))⟩,
    ⟨(some 92), none, (.bin .neq .none (.t 91) (.c (.v (.int .i64 0))))⟩,
    ⟨(some 93), none, (.mv (.t 92))⟩,
    ⟨(some 94), (some (93, false)), (.mv (.t 18))⟩,
    ⟨(some 95), (some (93, false)), (.bin .lss .none (.t 94) (.c (.v (.int .i64 0))))⟩,
    ⟨(some 96), none, (.pick (.t 93) (.c (.v (.bool true))) (.t 95))⟩] false) (.cond (.t 96) (.seq [6, 7, 8] (.region [⟨(some 6), none, (.mv (.c (.v (.int .i64 0))))⟩,
    ⟨(some 7), none, (.mv (.c (.v (.bool false))))⟩,
    ⟨(some 8), none, (.mv (.c (.v (.bool false))))⟩] false) .ret) .skip)) (.seq [0, 2, 9, 11, 12, 13, 14, 15, 18, 31, 32] (.region [⟨(some 97), none, (.load (some 5) (.t 17))⟩,
    ⟨none, none, (.store 5 (.t 9) (.t 97))⟩] false) (.seq [0, 2, 9, 11, 12, 13, 14, 15, 31, 32] (.seq [0, 2, 9, 11, 12, 13, 14, 15, 31, 32, 99] (.region [⟨(some 98), none, (.mv (.t 18))⟩,
    ⟨(some 99), none, (.bin .gtr .none (.t 98) (.c (.v (.int .i64 0))))⟩] false) (.cond (.t 99) (.seq [0, 2, 9, 11, 12, 13, 14, 15, 31, 32] (.region [⟨(some 13), none, (.mv (.c (.v (.bool false))))⟩] false) (.exit 2)) .skip)) (.region [⟨(some 100), none, (.mv (.t 11))⟩,
    ⟨(some 101), none, (.slice 1 (.t 100) (some (.c (.v (.int .i64 1)))) none)⟩,
    ⟨(some 11), none, (.mv (.t 101))⟩] false))))))))
def s6b1 : SCode := 
  (.seq [0, 2, 9, 11, 12, 13, 14, 31, 32, 33] (.region [⟨(some 33), none, (.bin .lss .none (.t 32) (.t 31))⟩] false) (.seq [0, 2, 9, 11, 12, 13, 14, 31, 32] (.cond (.t 33) .skip (.exit 0)) (.seq [0, 2, 9, 11, 12, 13, 14, 31, 32] (.block 1 (.seq [0, 2, 9, 11, 12, 13, 14, 15, 31, 32] (.region [⟨(some 34), none, (.mv (.t 32))⟩,
    ⟨(some 15), none, (.mv (.t 34))⟩] false) (.seq [0, 2, 9, 11, 12, 13, 14, 15, 16, 31, 32] (.region [⟨(some 35), none, (.mv (.t 2))⟩,
    ⟨(some 36), none, (.load (some 5) (.t 9))⟩,
    ⟨(some 37), none, (.call (.c (.fn 10 [])) [(.t 36)])⟩,
    ⟨(some 38), none, (.minmax false (.t 35) (.t 37))⟩,
    ⟨(some 16), none, (.mv (.t 38))⟩] false) (.seq [0, 2, 9, 11, 12, 13, 14, 15, 16, 31, 32] (.region [⟨(some 39), none, (.mv (.t 12))⟩,
    ⟨(some 40), none, (.load (some 5) (.t 9))⟩,
    ⟨(some 41), none, (.mv (.t 15))⟩,
    ⟨(some 42), none, (.call (.c (.fn 11 [])) [(.t 40), (.t 41)])⟩,
    ⟨(some 43), none, (.minmax true (.t 39) (.t 42))⟩,
    ⟨(some 12), none, (.mv (.t 43))⟩] false) (.seq [0, 2, 9, 11, 12, 13, 14, 15, 31, 32] (.region [⟨(some 44), none, (.mv (.t 14))⟩,
    ⟨(some 45), none, (.mv (.t 16))⟩,
    ⟨(some 46), none, (.bin .add .none (.t 44) (.t 45))⟩,
    ⟨(some 14), none, (.mv (.t 46))⟩] false) (.seq [0, 2, 9, 11, 12, 13, 14, 15, 31, 32] (.seq [0, 2, 9, 10, 11, 12, 13, 14, 15, 31, 32] (.region [⟨(some 48), none, (.load (some 5) (.t 9))⟩,
    ⟨(some 49), none, (.mv (.t 15))⟩,
    ⟨(some 50), none, (.mv (.t 14))⟩,
    ⟨(some 51), none, (.call (.c (.fn 12 [])) [(.t 48), (.t 49), (.t 50)])⟩,
    ⟨(some 47), none, (.mv (.t 51))⟩,
    ⟨(some 52), none, (.extract (.t 47) 0)⟩,
    ⟨(some 53), none, (.extract (.t 47) 1)⟩,
    ⟨none, none, (.store 5 (.t 9) (.t 52))⟩,
    ⟨(some 10), none, (.mv (.t 53))⟩] false) (.seq [0, 2, 9, 11, 12, 13, 14, 15, 31, 32, 55] (.region [⟨(some 54), none, (.mv (.t 10))⟩,
    ⟨(some 55), none, (.bin .neq .none (.t 54) (.c (.v (.int .i64 0))))⟩] false) (.cond (.t 55) (.seq [6, 7, 8] (.region [⟨(some 6), none, (.mv (.c (.v (.int .i64 0))))⟩,
    ⟨(some 7), none, (.mv (.c (.v (.bool false))))⟩,
    ⟨(some 8), none, (.mv (.c (.v (.bool false))))⟩] false) .ret) .skip))) (.seq [0, 2, 9, 11, 12, 13, 14, 15, 31, 32] (.seq [0, 2, 9, 11, 12, 13, 14, 15, 31, 32, 66] (.region [⟨(some 56), none, (.mv (.t 15))⟩,
    ⟨(some 57), none, (.mv (.t 0))⟩,
    ⟨(some 58), none, (.len (.t 57))⟩,
    ⟨(some 59), none, (.bin .lss .none (.t 56) (.t 58))⟩,
    ⟨(some 60), none, (.mv (.t 59))⟩,
    ⟨(some 61), (some (60, true)), (.mv (.t 0))⟩,
    ⟨(some 62), (some (60, true)), (.mv (.t 15))⟩,
    ⟨(some 63), (some (60, true)), (.iaddr 1 none (.t 61) (.t 62))⟩,
    ⟨(some 64), (some (60, true)), (.load none (.t 63))⟩,
    ⟨(some 65), (some (60, true)), (.bin .gtr .none (.t 64) (.c (.v (.int .i64 0))))⟩,
    ⟨(some 66), none, (.pick (.t 60) (.t 65) (.c (.v (.bool false))))⟩] false) (.cond (.t 66) (.region [⟨(some 67), none, (.mv (.t 11))⟩,
    ⟨(some 68), none, (.mv (.t 0))⟩,
    ⟨(some 69), none, (.mv (.t 15))⟩,
    ⟨(some 70), none, (.iaddr 1 none (.t 68) (.t 69))⟩,
    ⟨(some 71), none, (.load none (.t 70))⟩,
    ⟨(some 72), none, (.bslice [(.v (.int .i64 0))] 1 [(0, (1, (.t 71)))])⟩,
    ⟨(some 73), none, (.append 1 8 (.t 67) (.t 72))⟩,
    ⟨(some 11), none, (.mv (.t 73))⟩] false) .skip)) (.seq [0, 2, 9, 11, 12, 13, 14, 15, 31, 32] (.block 2 (.loop [0, 2, 9, 11, 12, 13, 14, 15, 31, 32] s6b0)) (.region [⟨(some 102), none, (.mv (.t 12))⟩,
    ⟨(some 103), none, (.load (some 5) (.t 9))⟩,
    ⟨(some 104), none, (.mv (.t 15))⟩,
    ⟨(some 105), none, (.call (.c (.fn 11 [])) [(.t 103), (.t 104)])⟩,
    ⟨(some 106), none, (.minmax true (.t 102) (.t 105))⟩,
    ⟨(some 12), none, (.mv (.t 106))⟩] false))))))))) (.region [⟨(some 107), none, (.bin .add .none (.t 32) (.c (.v (.int .i64 1))))⟩,
    ⟨(some 32), none, (.mv (.t 107))⟩] false))))
def s6 : SFn := 
  ⟨.plain, 3, [(.tmp 6), (.tmp 7), (.tmp 8)], (.seq [0, 1, 2] (.region [⟨(some 6), none, (.mv (.c (.v (.int .i64 0))))⟩,
    ⟨(some 7), none, (.mv (.c (.v (.bool false))))⟩,
    ⟨(some 8), none, (.mv (.c (.v (.bool false))))⟩] false) (.seq [0, 2, 9, 10] (.region [⟨(some 21), none, (.mv (.t 1))⟩,
    ⟨(some 22), none, (.mv (.t 2))⟩,
    ⟨(some 23), none, (.call (.c (.fn 9 [])) [(.t 21), (.t 22)])⟩,
    ⟨(some 20), none, (.mv (.t 23))⟩,
    ⟨(some 24), none, (.extract (.t 20) 0)⟩,
    ⟨(some 25), none, (.extract (.t 20) 1)⟩,
    ⟨(some 9), none, (.alloc [(.v (.int .i64 0)), (.v (.int .i64 0)), (.v (.int .i64 0)), (.v (.int .i64 0)), (.v (.slice none 0 0))])⟩,
    ⟨none, none, (.store 5 (.t 9) (.t 24))⟩,
    ⟨(some 10), none, (.mv (.t 25))⟩] false) (.seq [0, 2, 9] (.seq [0, 2, 9, 27] (.region [⟨(some 26), none, (.mv (.t 10))⟩,
    ⟨(some 27), none, (.bin .neq .none (.t 26) (.c (.v (.int .i64 0))))⟩] false) (.cond (.t 27) (.seq [6, 7, 8] (.region [⟨(some 6), none, (.mv (.c (.v (.int .i64 0))))⟩,
    ⟨(some 7), none, (.mv (.c (.v (.bool false))))⟩,
    ⟨(some 8), none, (.mv (.c (.v (.bool false))))⟩] false) .ret) .skip)) (.seq [0, 2, 9, 11] (.region [⟨(some 11), none, (.mv (.c (.v (.slice none 0 0))))⟩] false) (.seq [0, 2, 9, 11, 12, 13, 14] (.region [⟨(some 12), none, (.mv (.c (.v (.int .i64 0))))⟩,
    ⟨(some 13), none, (.mv (.c (.v (.bool true))))⟩,
    ⟨(some 14), none, (.mv (.c (.v (.int .i64 0))))⟩] false) (.seq [12, 13] (.seq [0, 2, 9, 11, 12, 13, 14, 31, 32] (.region [⟨(some 28), none, (.mv (.t 0))⟩,
    ⟨(some 29), none, (.len (.t 28))⟩,
    ⟨(some 30), none, (.bin .mul .none (.c (.v (.int .i64 4))) (.t 29))⟩,
    ⟨(some 31), none, (.bin .add .none (.t 30) (.c (.v (.int .i64 400))))⟩,
    ⟨(some 32), none, (.mv (.c (.v (.int .i64 0))))⟩] false) (.block 0 (.loop [0, 2, 9, 11, 12, 13, 14, 31, 32] s6b1))) (.seq [6, 7, 8] (.region [⟨(some 108), none, (.mv (.t 12))⟩,
    ⟨(some 109), none, (.mv (.t 13))⟩,
    ⟨(some 6), none, (.mv (.t 108))⟩,
    ⟨(some 7), none, (.mv (.t 109))⟩,
    ⟨(some 8), none, (.mv (.c (.v (.bool true))))⟩] false) .ret)))))))⟩
/- slices.ContainsFunc[[]int,int] -/
def s7 : SFn := 
  ⟨.plain, 2, [(.tmp 4)], (.seq [0, 1] (.region [⟨(some 4), none, (.mv (.c (.v (.bool false))))⟩] false) (.seq [4] (.region [⟨(some 5), none, (.mv (.t 0))⟩,
    ⟨(some 6), none, (.mv (.t 1))⟩,
    ⟨(some 7), none, (.call (.c (.fn 14 [])) [(.t 5), (.t 6)])⟩,
    ⟨(some 8), none, (.bin .geq .none (.t 7) (.c (.v (.int .i64 0))))⟩,
    ⟨(some 4), none, (.mv (.t 8))⟩] false) .ret))⟩
/- standby/standbytop.caseSequence$1 -/
def s8 : SFn := 
  ⟨.plain, 1, [(.tmp 2)], (.seq [0] (.region [⟨(some 2), none, (.mv (.c (.v (.bool false))))⟩] false) (.seq [2] (.region [⟨(some 3), none, (.mv (.t 0))⟩,
    ⟨(some 4), none, (.bin .lss .none (.t 3) (.c (.v (.int .i64 0))))⟩,
    ⟨(some 5), none, (.mv (.t 4))⟩,
    ⟨(some 6), (some (5, false)), (.mv (.t 0))⟩,
    ⟨(some 7), (some (5, false)), (.bin .gtr .none (.t 6) (.c (.v (.int .i64 60))))⟩,
    ⟨(some 8), none, (.pick (.t 5) (.c (.v (.bool true))) (.t 7))⟩,
    ⟨(some 2), none, (.mv (.t 8))⟩] false) .ret))⟩
/- standby/throttle.New -/
def s9 : SFn := 
  ⟨.pure, 2, [(.cell 4 (some 5)), (.tmp 5)], (.seq [0, 1, 4] (.region [⟨(some 4), none, (.alloc [(.v (.int .i64 0)), (.v (.int .i64 0)), (.v (.int .i64 0)), (.v (.int .i64 0)), (.v (.slice none 0 0))])⟩,
    ⟨(some 5), none, (.mv (.c (.v (.int .i64 0))))⟩] false) (.seq [0, 1, 4] (.seq [0, 1, 4, 13] (.region [⟨(some 6), none, (.mv (.t 0))⟩,
    ⟨(some 7), none, (.call (.c (.fn 15 [])) [(.t 6), (.c (.v (.int .i64 1))), (.c (.v (.int .i64 1073741824)))])⟩,
    ⟨(some 8), none, (.un .not (.t 7))⟩,
    ⟨(some 9), none, (.mv (.t 8))⟩,
    ⟨(some 10), (some (9, false)), (.mv (.t 1))⟩,
    ⟨(some 11), (some (9, false)), (.call (.c (.fn 15 [])) [(.t 10), (.c (.v (.int .i64 1))), (.c (.v (.int .i64 4096)))])⟩,
    ⟨(some 12), (some (9, false)), (.un .not (.t 11))⟩,
    ⟨(some 13), none, (.pick (.t 9) (.c (.v (.bool true))) (.t 12))⟩] false) (.cond (.t 13) (.seq [4, 5] (.region [⟨(some 14), none, (.build [(.v (.int .i64 0)), (.v (.int .i64 0)), (.v (.int .i64 0)), (.v (.int .i64 0)), (.v (.slice none 0 0))] [])⟩,
    ⟨none, none, (.store 5 (.t 4) (.t 14))⟩,
    ⟨(some 5), none, (.mv (.c (.v (.int .i64 2))))⟩] false) .ret) .skip)) (.seq [4, 5] (.region [⟨(some 15), none, (.mv (.t 0))⟩,
    ⟨(some 16), none, (.mv (.t 1))⟩,
    ⟨(some 17), none, (.build [(.v (.int .i64 0)), (.v (.int .i64 0)), (.v (.int .i64 0)), (.v (.int .i64 0)), (.v (.slice none 0 0))] [(0, (1, (.t 15))), (1, (1, (.t 16)))])⟩,
    ⟨none, none, (.store 5 (.t 4) (.t 17))⟩,
    ⟨(some 5), none, (.mv (.c (.v (.int .i64 0))))⟩] false) .ret)))⟩
/- standby/throttle.Backlog -/
def s10 : SFn := 
  ⟨.pure, 1, [(.tmp 2)], (.seq [1] (.region [⟨(some 1), none, (.box (.t 0))⟩,
    ⟨(some 2), none, (.mv (.c (.v (.int .i64 0))))⟩] false) (.seq [1] (.seq [1, 5] (.region [⟨(some 3), none, (.load (some 5) (.t 1))⟩,
    ⟨(some 4), none, (.call (.c (.fn 16 [])) [(.t 3)])⟩,
    ⟨(some 5), none, (.bin .neq .none (.t 4) (.c (.v (.int .i64 0))))⟩] false) (.cond (.t 5) (.seq [2] (.region [⟨(some 2), none, (.mv (.c (.v (.int .i64 0))))⟩] false) .ret) .skip)) (.seq [2] (.region [⟨(some 6), none, (.faddr 3 (.t 1))⟩,
    ⟨(some 7), none, (.load none (.t 6))⟩,
    ⟨(some 2), none, (.mv (.t 7))⟩] false) .ret)))⟩
/- standby/throttle.Age -/
def s11 : SFn := 
  ⟨.pure, 2, [(.tmp 4)], (.seq [1, 2] (.region [⟨(some 2), none, (.box (.t 0))⟩,
    ⟨(some 4), none, (.mv (.c (.v (.int .i64 0))))⟩] false) (.seq [1, 2, 5] (.region [⟨(some 6), none, (.load (some 5) (.t 2))⟩,
    ⟨(some 7), none, (.build [(.v (.int .i64 0)), (.v (.int .i64 0)), (.v (.int .i64 0)), (.v (.int .i64 0)), (.v (.slice none 0 0))] [(0, (5, (.t 6)))])⟩,
    ⟨(some 5), none, (.alloc [(.v (.int .i64 0)), (.v (.int .i64 0)), (.v (.int .i64 0)), (.v (.int .i64 0)), (.v (.slice none 0 0))])⟩,
    ⟨none, none, (.store 5 (.t 5) (.t 7))⟩] false) (.seq [1, 5] (.seq [1, 5, 15] (.region [⟨(some 8), none, (.load (some 5) (.t 2))⟩,
    ⟨(some 9), none, (.call (.c (.fn 16 [])) [(.t 8)])⟩,
    ⟨(some 10), none, (.bin .neq .none (.t 9) (.c (.v (.int .i64 0))))⟩,
    ⟨(some 11), none, (.mv (.t 10))⟩,
    ⟨(some 12), (some (11, false)), (.faddr 3 (.t 2))⟩,
    ⟨(some 13), (some (11, false)), (.load none (.t 12))⟩,
    ⟨(some 14), (some (11, false)), (.bin .eql .none (.t 13) (.c (.v (.int .i64 0))))⟩,
    ⟨(some 15), none, (.pick (.t 11) (.c (.v (.bool true))) (.t 14))⟩] false) (.cond (.t 15) (.seq [4] (.region [⟨(some 4), none, (.mv (.c (.v (.int .i64 0))))⟩] false) .ret) .skip)) (.seq [1, 5] (.seq [1, 5, 27] (.region [⟨(some 16), none, (.mv (.t 1))⟩,
    ⟨(some 17), none, (.faddr 0 (.t 5))⟩,
    ⟨(some 18), none, (.faddr 4 (.t 17))⟩,
    ⟨(some 19), none, (.load none (.t 18))⟩,
    ⟨(some 20), none, (.load (some 5) (.t 5))⟩,
    ⟨(some 21), none, (.load (some 5) (.t 5))⟩,
    ⟨(some 22), none, (.call (.c (.fn 18 [])) [(.t 21)])⟩,
    ⟨(some 23), none, (.call (.c (.fn 17 [])) [(.t 20), (.t 22)])⟩,
    ⟨(some 24), none, (.iaddr 2 none (.t 19) (.t 23))⟩,
    ⟨(some 25), none, (.faddr 0 (.t 24))⟩,
    ⟨(some 26), none, (.load none (.t 25))⟩,
    ⟨(some 27), none, (.bin .lss .none (.t 16) (.t 26))⟩] true) (.cond (.t 27) (.seq [4] (.region [⟨(some 4), none, (.mv (.c (.v (.int .i64 0))))⟩] false) .ret) .skip)) (.seq [4] (.region [⟨(some 28), none, (.mv (.t 1))⟩,
    ⟨(some 29), none, (.faddr 0 (.t 5))⟩,
    ⟨(some 30), none, (.faddr 4 (.t 29))⟩,
    ⟨(some 31), none, (.load none (.t 30))⟩,
    ⟨(some 32), none, (.load (some 5) (.t 5))⟩,
    ⟨(some 33), none, (.load (some 5) (.t 5))⟩,
    ⟨(some 34), none, (.call (.c (.fn 18 [])) [(.t 33)])⟩,
    ⟨(some 35), none, (.call (.c (.fn 17 [])) [(.t 32), (.t 34)])⟩,
    ⟨(some 36), none, (.iaddr 2 none (.t 31) (.t 35))⟩,
    ⟨(some 37), none, (.faddr 0 (.t 36))⟩,
    ⟨(some 38), none, (.load none (.t 37))⟩,
    ⟨(some 39), none, (.bin .sub .none (.t 28) (.t 38))⟩,
    ⟨(some 40), none, (.minmax true (.c (.v (.int .i64 0))) (.t 39))⟩,
    ⟨(some 4), none, (.mv (.t 40))⟩] true) .ret)))))⟩
/- standby/throttle.Progress -/
def s12 : SFn := 
  ⟨.pure, 3, [(.cell 6 (some 5)), (.tmp 7)], (.seq [1, 2, 3, 6] (.region [⟨(some 3), none, (.box (.t 0))⟩,
    ⟨(some 6), none, (.alloc [(.v (.int .i64 0)), (.v (.int .i64 0)), (.v (.int .i64 0)), (.v (.int .i64 0)), (.v (.slice none 0 0))])⟩,
    ⟨(some 7), none, (.mv (.c (.v (.int .i64 0))))⟩] false) (.seq [1, 2, 6, 8] (.region [⟨(some 11), none, (.load (some 5) (.t 3))⟩,
    ⟨(some 12), none, (.build [(.v (.int .i64 0)), (.v (.int .i64 0)), (.v (.int .i64 0)), (.v (.int .i64 0)), (.v (.slice none 0 0))] [(0, (5, (.t 11)))])⟩,
    ⟨(some 8), none, (.alloc [(.v (.int .i64 0)), (.v (.int .i64 0)), (.v (.int .i64 0)), (.v (.int .i64 0)), (.v (.slice none 0 0))])⟩,
    ⟨none, none, (.store 5 (.t 8) (.t 12))⟩] false) (.seq [2, 6, 8] (.seq [2, 6, 8, 9] (.region [⟨(some 13), none, (.mv (.t 1))⟩,
    ⟨(some 14), none, (.call (.c (.fn 19 [])) [(.t 8), (.t 13)])⟩,
    ⟨(some 9), none, (.mv (.t 14))⟩] false) (.seq [2, 6, 8, 9, 16] (.region [⟨(some 15), none, (.mv (.t 9))⟩,
    ⟨(some 16), none, (.bin .neq .none (.t 15) (.c (.v (.int .i64 0))))⟩] false) (.cond (.t 16) (.seq [6, 7] (.region [⟨(some 17), none, (.build [(.v (.int .i64 0)), (.v (.int .i64 0)), (.v (.int .i64 0)), (.v (.int .i64 0)), (.v (.slice none 0 0))] [])⟩,
    ⟨(some 18), none, (.mv (.t 9))⟩,
    ⟨none, none, (.store 5 (.t 6) (.t 17))⟩,
    ⟨(some 7), none, (.mv (.t 18))⟩] false) .ret) .skip))) (.seq [2, 6, 8] (.seq [2, 6, 8, 25] (.region [⟨(some 19), none, (.mv (.t 2))⟩,
    ⟨(some 20), none, (.load (some 5) (.t 8))⟩,
    ⟨(some 21), none, (.call (.c (.fn 18 [])) [(.t 20)])⟩,
    ⟨(some 22), none, (.load (some 5) (.t 8))⟩,
    ⟨(some 23), none, (.call (.c (.fn 20 [])) [(.t 22)])⟩,
    ⟨(some 24), none, (.call (.c (.fn 15 [])) [(.t 19), (.t 21), (.t 23)])⟩,
    ⟨(some 25), none, (.un .not (.t 24))⟩] true) (.cond (.t 25) (.seq [6, 7] (.region [⟨(some 26), none, (.build [(.v (.int .i64 0)), (.v (.int .i64 0)), (.v (.int .i64 0)), (.v (.int .i64 0)), (.v (.slice none 0 0))] [])⟩,
    ⟨none, none, (.store 5 (.t 6) (.t 26))⟩,
    ⟨(some 7), none, (.mv (.c (.v (.int .i64 2))))⟩] false) .ret) .skip)) (.seq [2, 6, 8] (.region [⟨(some 27), none, (.load (some 5) (.t 8))⟩,
    ⟨(some 28), none, (.call (.c (.fn 20 [])) [(.t 27)])⟩,
    ⟨(some 29), none, (.mv (.t 2))⟩,
    ⟨(some 30), none, (.bin .sub .none (.t 28) (.t 29))⟩,
    ⟨(some 31), none, (.faddr 0 (.t 8))⟩,
    ⟨(some 32), none, (.faddr 3 (.t 31))⟩,
    ⟨none, none, (.store 1 (.t 32) (.t 30))⟩] false) (.seq [6, 8] (.seq [2, 6, 8, 10] (.region [⟨(some 33), none, (.faddr 0 (.t 8))⟩,
    ⟨(some 34), none, (.faddr 4 (.t 33))⟩,
    ⟨(some 35), none, (.load none (.t 34))⟩,
    ⟨(some 36), none, (.len (.t 35))⟩,
    ⟨(some 10), none, (.mv (.t 36))⟩] false) (.seq [2, 6, 8, 10, 38] (.region [⟨(some 37), none, (.mv (.t 10))⟩,
    ⟨(some 38), none, (.bin .gtr .none (.t 37) (.c (.v (.int .i64 0))))⟩] false) (.cond (.t 38) (.region [⟨(some 39), none, (.faddr 0 (.t 8))⟩,
    ⟨(some 40), none, (.faddr 4 (.t 39))⟩,
    ⟨(some 41), none, (.load none (.t 40))⟩,
    ⟨(some 42), none, (.load (some 5) (.t 8))⟩,
    ⟨(some 43), none, (.mv (.t 2))⟩,
    ⟨(some 44), none, (.call (.c (.fn 17 [])) [(.t 42), (.t 43)])⟩,
    ⟨(some 45), none, (.mv (.t 10))⟩,
    ⟨(some 46), none, (.bin .sub .none (.t 45) (.c (.v (.int .i64 1))))⟩,
    ⟨(some 47), none, (.minmax false (.t 44) (.t 46))⟩,
    ⟨(some 48), none, (.slice 2 (.t 41) (some (.t 47)) none)⟩,
    ⟨(some 49), none, (.faddr 0 (.t 8))⟩,
    ⟨(some 50), none, (.faddr 4 (.t 49))⟩,
    ⟨none, none, (.store 1 (.t 50) (.t 48))⟩] true) .skip))) (.seq [6, 7] (.region [⟨(some 51), none, (.faddr 0 (.t 8))⟩,
    ⟨(some 52), none, (.load (some 5) (.t 51))⟩,
    ⟨none, none, (.store 5 (.t 6) (.t 52))⟩,
    ⟨(some 7), none, (.mv (.c (.v (.int .i64 0))))⟩] false) .ret)))))))⟩
/- standby/throttle.Write -/
def s13 : SFn := 
  ⟨.pure, 3, [(.cell 6 (some 5)), (.tmp 7), (.tmp 8)], (.seq [1, 2, 3, 6] (.region [⟨(some 3), none, (.box (.t 0))⟩,
    ⟨(some 6), none, (.alloc [(.v (.int .i64 0)), (.v (.int .i64 0)), (.v (.int .i64 0)), (.v (.int .i64 0)), (.v (.slice none 0 0))])⟩,
    ⟨(some 7), none, (.mv (.c (.v (.int .i64 0))))⟩,
    ⟨(some 8), none, (.mv (.c (.v (.int .i64 0))))⟩] false) (.seq [1, 2, 6, 9] (.region [⟨(some 13), none, (.load (some 5) (.t 3))⟩,
    ⟨(some 14), none, (.build [(.v (.int .i64 0)), (.v (.int .i64 0)), (.v (.int .i64 0)), (.v (.int .i64 0)), (.v (.slice none 0 0))] [(0, (5, (.t 13)))])⟩,
    ⟨(some 9), none, (.alloc [(.v (.int .i64 0)), (.v (.int .i64 0)), (.v (.int .i64 0)), (.v (.int .i64 0)), (.v (.slice none 0 0))])⟩,
    ⟨none, none, (.store 5 (.t 9) (.t 14))⟩] false) (.seq [2, 6, 9] (.seq [2, 6, 9, 10] (.region [⟨(some 15), none, (.mv (.t 1))⟩,
    ⟨(some 16), none, (.call (.c (.fn 19 [])) [(.t 9), (.t 15)])⟩,
    ⟨(some 10), none, (.mv (.t 16))⟩] false) (.seq [2, 6, 9, 10, 18] (.region [⟨(some 17), none, (.mv (.t 10))⟩,
    ⟨(some 18), none, (.bin .neq .none (.t 17) (.c (.v (.int .i64 0))))⟩] false) (.cond (.t 18) (.seq [6, 7, 8] (.region [⟨(some 19), none, (.build [(.v (.int .i64 0)), (.v (.int .i64 0)), (.v (.int .i64 0)), (.v (.int .i64 0)), (.v (.slice none 0 0))] [])⟩,
    ⟨(some 20), none, (.mv (.t 10))⟩,
    ⟨none, none, (.store 5 (.t 6) (.t 19))⟩,
    ⟨(some 7), none, (.mv (.c (.v (.int .i64 0))))⟩,
    ⟨(some 8), none, (.mv (.t 20))⟩] false) .ret) .skip))) (.seq [2, 6, 9] (.block 0 (.seq [2, 6, 9, 21] (.region [⟨(some 22), none, (.mv (.t 2))⟩,
    ⟨(some 23), none, (.call (.c (.fn 15 [])) [(.t 22), (.c (.v (.int .i64 1))), (.c (.v (.int .i64 4096)))])⟩,
    ⟨(some 24), none, (.un .not (.t 23))⟩,
    ⟨(some 21), none, (.mv (.t 24))⟩] false) (.cond (.t 21) (.seq [6, 7, 8] (.region [⟨(some 25), none, (.build [(.v (.int .i64 0)), (.v (.int .i64 0)), (.v (.int .i64 0)), (.v (.int .i64 0)), (.v (.slice none 0 0))] [])⟩,
    ⟨none, none, (.store 5 (.t 6) (.t 25))⟩,
    ⟨(some 7), none, (.mv (.c (.v (.int .i64 0))))⟩,
    ⟨(some 8), none, (.mv (.c (.v (.int .i64 2))))⟩] false) .ret) (.seq [2, 6, 9, 26] (.region [⟨(some 27), none, (.mv (.t 2))⟩,
    ⟨(some 28), none, (.load (some 5) (.t 9))⟩,
    ⟨(some 29), none, (.call (.c (.fn 21 [])) [(.t 28)])⟩,
    ⟨(some 30), none, (.bin .gtr .none (.t 27) (.t 29))⟩,
    ⟨(some 26), none, (.mv (.t 30))⟩] false) (.cond (.t 26) (.seq [6, 7, 8] (.region [⟨(some 31), none, (.build [(.v (.int .i64 0)), (.v (.int .i64 0)), (.v (.int .i64 0)), (.v (.int .i64 0)), (.v (.slice none 0 0))] [])⟩,
    ⟨none, none, (.store 5 (.t 6) (.t 31))⟩,
    ⟨(some 7), none, (.mv (.c (.v (.int .i64 0))))⟩,
    ⟨(some 8), none, (.mv (.c (.v (.int .i64 21))))⟩] false) .ret) .skip))))) (.seq [2, 6, 9] (.seq [2, 6, 9, 11] (.region [⟨(some 32), none, (.faddr 0 (.t 9))⟩,
    ⟨(some 33), none, (.faddr 3 (.t 32))⟩,
    ⟨(some 34), none, (.load none (.t 33))⟩,
    ⟨(some 35), none, (.mv (.t 2))⟩,
    ⟨(some 36), none, (.bin .add .none (.t 34) (.t 35))⟩,
    ⟨(some 37), none, (.load (some 5) (.t 9))⟩,
    ⟨(some 38), none, (.call (.c (.fn 21 [])) [(.t 37)])⟩,
    ⟨(some 39), none, (.bin .sub .none (.t 36) (.t 38))⟩,
    ⟨(some 11), none, (.mv (.t 39))⟩] true) (.seq [2, 6, 9, 11, 41] (.region [⟨(some 40), none, (.mv (.t 11))⟩,
    ⟨(some 41), none, (.bin .gtr .none (.t 40) (.c (.v (.int .i64 0))))⟩] false) (.cond (.t 41) (.seq [6, 7, 8] (.regionF [⟨(some 42), none, (.faddr 0 (.t 9))⟩,
    ⟨(some 43), none, (.load (some 5) (.t 42))⟩,
    ⟨(some 44), none, (.mv (.t 11))⟩,
    ⟨(some 45), none, (.faddr 0 (.t 9))⟩,
    ⟨(some 46), none, (.faddr 1 (.t 45))⟩,
    ⟨(some 47), none, (.load none (.t 46))⟩,
    ⟨(some 48), none, (.bin .add .none (.t 44) (.t 47))⟩,
    ⟨(some 49), none, (.bin .sub .none (.t 48) (.c (.v (.int .i64 1))))⟩,
    ⟨(some 50), none, (.faddr 0 (.t 9))⟩,
    ⟨(some 51), none, (.faddr 1 (.t 50))⟩,
    ⟨(some 52), none, (.load none (.t 51))⟩,
    ⟨(some 53), none, (.bin .quo .none (.t 49) (.t 52))⟩,
    ⟨none, none, (.store 5 (.t 6) (.t 43))⟩,
    ⟨(some 7), none, (.mv (.t 53))⟩,
    ⟨(some 8), none, (.mv (.c (.v (.int .i64 0))))⟩]) .ret) .skip))) (.seq [6, 9] (.seq [6, 9, 12] (.region [⟨(some 54), none, (.mv (.t 2))⟩,
    ⟨(some 55), none, (.call (.c (.fn 22 [])) [(.t 9), (.t 54)])⟩,
    ⟨(some 12), none, (.mv (.t 55))⟩] false) (.seq [6, 9, 12, 57] (.region [⟨(some 56), none, (.mv (.t 12))⟩,
    ⟨(some 57), none, (.bin .neq .none (.t 56) (.c (.v (.int .i64 0))))⟩] false) (.cond (.t 57) (.seq [6, 7, 8] (.region [⟨(some 58), none, (.build [(.v (.int .i64 0)), (.v (.int .i64 0)), (.v (.int .i64 0)), (.v (.int .i64 0)), (.v (.slice none 0 0))] [])⟩,
    ⟨(some 59), none, (.mv (.t 12))⟩,
    ⟨none, none, (.store 5 (.t 6) (.t 58))⟩,
    ⟨(some 7), none, (.mv (.c (.v (.int .i64 0))))⟩,
    ⟨(some 8), none, (.mv (.t 59))⟩] false) .ret) .skip))) (.seq [6, 7, 8] (.region [⟨(some 60), none, (.faddr 0 (.t 9))⟩,
    ⟨(some 61), none, (.load (some 5) (.t 60))⟩,
    ⟨none, none, (.store 5 (.t 6) (.t 61))⟩,
    ⟨(some 7), none, (.mv (.c (.v (.int .i64 0))))⟩,
    ⟨(some 8), none, (.mv (.c (.v (.int .i64 0))))⟩] false) .ret)))))))⟩
/- slices.IndexFunc[[]int,int] -/
def s14b0 : SCode := 
  (.seq [0, 1, 7, 8, 9] (.region [⟨(some 9), none, (.bin .lss .none (.t 8) (.t 7))⟩] false) (.seq [0, 1, 7, 8] (.cond (.t 9) .skip (.exit 0)) (.seq [0, 1, 7, 8] (.block 1 (.seq [0, 1, 5, 7, 8] (.region [⟨(some 10), none, (.mv (.t 8))⟩,
    ⟨(some 5), none, (.mv (.t 10))⟩] false) (.seq [0, 1, 5, 7, 8, 16] (.region [⟨(some 11), none, (.mv (.t 1))⟩,
    ⟨(some 12), none, (.mv (.t 0))⟩,
    ⟨(some 13), none, (.mv (.t 5))⟩,
    ⟨(some 14), none, (.iaddr 1 none (.t 12) (.t 13))⟩,
    ⟨(some 15), none, (.load none (.t 14))⟩,
    ⟨(some 16), none, (.call (.t 11) [(.t 15)])⟩] false) (.cond (.t 16) (.seq [4] (.region [⟨(some 17), none, (.mv (.t 5))⟩,
    ⟨(some 4), none, (.mv (.t 17))⟩] false) .ret) .skip)))) (.region [⟨(some 18), none, (.bin .add .none (.t 8) (.c (.v (.int .i64 1))))⟩,
    ⟨(some 8), none, (.mv (.t 18))⟩] false))))
def s14 : SFn := 
  ⟨.plain, 2, [(.tmp 4)], (.seq [0, 1] (.region [⟨(some 4), none, (.mv (.c (.v (.int .i64 0))))⟩] false) (.seq [] (.seq [0, 1, 7, 8] (.region [⟨(some 6), none, (.mv (.t 0))⟩,
    ⟨(some 7), none, (.len (.t 6))⟩,
    ⟨(some 8), none, (.mv (.c (.v (.int .i64 0))))⟩] false) (.block 0 (.loop [0, 1, 7, 8] s14b0))) (.seq [4] (.region [⟨(some 4), none, (.mv (.c (.v (.int .i64 (-1)))))⟩] false) .ret)))⟩
/- standby/throttle.between -/
def s15 : SFn := 
  ⟨.pure, 3, [(.tmp 6)], (.seq [0, 1, 2] (.region [⟨(some 6), none, (.mv (.c (.v (.bool false))))⟩] false) (.seq [6] (.region [⟨(some 7), none, (.mv (.t 0))⟩,
    ⟨(some 8), none, (.mv (.t 1))⟩,
    ⟨(some 9), none, (.bin .geq .none (.t 7) (.t 8))⟩,
    ⟨(some 10), none, (.mv (.t 9))⟩,
    ⟨(some 11), (some (10, true)), (.mv (.t 0))⟩,
    ⟨(some 12), (some (10, true)), (.mv (.t 2))⟩,
    ⟨(some 13), (some (10, true)), (.bin .leq .none (.t 11) (.t 12))⟩,
    ⟨(some 14), none, (.pick (.t 10) (.t 13) (.c (.v (.bool false))))⟩,
    ⟨(some 6), none, (.mv (.t 14))⟩] false) .ret))⟩
/- standby/throttle.Check -/
def s16b0 : SCode := 
  (.seq [1, 3, 6, 33, 34, 35, 36] (.region [⟨(some 36), none, (.bin .lss .none (.t 35) (.t 34))⟩] false) (.seq [1, 3, 6, 33, 34, 35] (.cond (.t 36) .skip (.exit 0)) (.seq [1, 3, 6, 33, 34, 35] (.block 1 (.seq [1, 3, 6, 8, 33, 34, 35] (.region [⟨(some 37), none, (.iaddr 2 none (.t 33) (.t 35))⟩,
    ⟨(some 38), none, (.load (some 2) (.t 37))⟩,
    ⟨(some 8), none, (.alloc [(.v (.int .i64 0)), (.v (.int .i64 0))])⟩,
    ⟨none, none, (.store 2 (.t 8) (.t 38))⟩] false) (.seq [1, 3, 6, 8, 33, 34, 35] (.seq [1, 3, 6, 8, 33, 34, 35, 56] (.region [⟨(some 39), none, (.faddr 0 (.t 8))⟩,
    ⟨(some 40), none, (.load none (.t 39))⟩,
    ⟨(some 41), none, (.faddr 0 (.t 6))⟩,
    ⟨(some 42), none, (.load none (.t 41))⟩,
    ⟨(some 43), none, (.bin .add .none (.t 42) (.c (.v (.int .i64 1))))⟩,
    ⟨(some 44), none, (.faddr 2 (.t 1))⟩,
    ⟨(some 45), none, (.load none (.t 44))⟩,
    ⟨(some 46), none, (.call (.c (.fn 15 [])) [(.t 40), (.t 43), (.t 45)])⟩,
    ⟨(some 47), none, (.un .not (.t 46))⟩,
    ⟨(some 48), none, (.mv (.t 47))⟩,
    ⟨(some 49), (some (48, false)), (.faddr 1 (.t 8))⟩,
    ⟨(some 50), (some (48, false)), (.load none (.t 49))⟩,
    ⟨(some 51), (some (48, false)), (.faddr 1 (.t 6))⟩,
    ⟨(some 52), (some (48, false)), (.load none (.t 51))⟩,
    ⟨(some 53), (some (48, false)), (.bin .add .none (.t 52) (.c (.v (.int .i64 1))))⟩,
    ⟨(some 54), (some (48, false)), (.call (.c (.fn 15 [])) [(.t 50), (.t 53), (.c (.v (.int .i64 1073741824)))])⟩,
    ⟨(some 55), (some (48, false)), (.un .not (.t 54))⟩,
    ⟨(some 56), none, (.pick (.t 48) (.c (.v (.bool true))) (.t 55))⟩] false) (.cond (.t 56) (.seq [2] (.region [⟨(some 2), none, (.mv (.c (.v (.int .i64 3))))⟩] false) .ret) .skip)) (.region [⟨(some 57), none, (.load (some 2) (.t 8))⟩,
    ⟨none, none, (.store 2 (.t 6) (.t 57))⟩] false)))) (.region [⟨(some 58), none, (.bin .add .none (.t 35) (.c (.v (.int .i64 1))))⟩,
    ⟨(some 35), none, (.mv (.t 58))⟩] false))))
def s16 : SFn := 
  ⟨.pure, 1, [(.tmp 2)], (.seq [1] (.region [⟨(some 1), none, (.box (.t 0))⟩,
    ⟨(some 2), none, (.mv (.c (.v (.int .i64 0))))⟩] false) (.seq [1, 3] (.region [⟨(some 9), none, (.load (some 5) (.t 1))⟩,
    ⟨(some 10), none, (.build [(.v (.int .i64 0)), (.v (.int .i64 0)), (.v (.int .i64 0)), (.v (.int .i64 0)), (.v (.slice none 0 0))] [(0, (5, (.t 9)))])⟩,
    ⟨(some 3), none, (.alloc [(.v (.int .i64 0)), (.v (.int .i64 0)), (.v (.int .i64 0)), (.v (.int .i64 0)), (.v (.slice none 0 0))])⟩,
    ⟨none, none, (.store 5 (.t 3) (.t 10))⟩] false) (.seq [1, 3] (.seq [1, 3, 5] (.region [⟨(some 12), none, (.faddr 0 (.t 1))⟩,
    ⟨(some 13), none, (.load none (.t 12))⟩,
    ⟨(some 14), none, (.faddr 1 (.t 1))⟩,
    ⟨(some 15), none, (.load none (.t 14))⟩,
    ⟨(some 16), none, (.call (.c (.fn 9 [])) [(.t 13), (.t 15)])⟩,
    ⟨(some 11), none, (.mv (.t 16))⟩,
    ⟨(some 17), none, (.extract (.t 11) 0)⟩,
    ⟨(some 18), none, (.extract (.t 11) 1)⟩,
    ⟨(some 4), none, (.alloc [(.v (.int .i64 0)), (.v (.int .i64 0)), (.v (.int .i64 0)), (.v (.int .i64 0)), (.v (.slice none 0 0))])⟩,
    ⟨none, none, (.store 5 (.t 4) (.t 17))⟩,
    ⟨(some 5), none, (.mv (.t 18))⟩] false) (.seq [1, 3, 26] (.region [⟨(some 19), none, (.mv (.t 5))⟩,
    ⟨(some 20), none, (.bin .neq .none (.t 19) (.c (.v (.int .i64 0))))⟩,
    ⟨(some 21), none, (.mv (.t 20))⟩,
    ⟨(some 22), (some (21, false)), (.faddr 2 (.t 1))⟩,
    ⟨(some 23), (some (21, false)), (.load none (.t 22))⟩,
    ⟨(some 24), (some (21, false)), (.call (.c (.fn 15 [])) [(.t 23), (.c (.v (.int .i64 0))), (.c (.v (.int .i64 1073741824)))])⟩,
    ⟨(some 25), (some (21, false)), (.un .not (.t 24))⟩,
    ⟨(some 26), none, (.pick (.t 21) (.c (.v (.bool true))) (.t 25))⟩] false) (.cond (.t 26) (.seq [2] (.region [⟨(some 2), none, (.mv (.c (.v (.int .i64 2))))⟩] false) .ret) .skip))) (.seq [1, 3] (.seq [1, 3, 30] (.region [⟨(some 27), none, (.faddr 4 (.t 1))⟩,
    ⟨(some 28), none, (.load none (.t 27))⟩,
    ⟨(some 29), none, (.len (.t 28))⟩,
    ⟨(some 30), none, (.bin .gtr .none (.t 29) (.c (.v (.int .i64 4096))))⟩] false) (.cond (.t 30) (.seq [2] (.region [⟨(some 2), none, (.mv (.c (.v (.int .i64 6))))⟩] false) .ret) .skip)) (.seq [1, 3, 6] (.region [⟨(some 31), none, (.build [(.v (.int .i64 0)), (.v (.int .i64 0))] [(0, (1, (.c (.v (.int .i64 (-1))))))])⟩,
    ⟨(some 6), none, (.alloc [(.v (.int .i64 0)), (.v (.int .i64 0))])⟩,
    ⟨none, none, (.store 2 (.t 6) (.t 31))⟩] false) (.seq [1, 3] (.seq [1, 3, 6, 33, 34, 35] (.region [⟨(some 32), none, (.faddr 4 (.t 1))⟩,
    ⟨(some 33), none, (.load none (.t 32))⟩,
    ⟨(some 34), none, (.len (.t 33))⟩,
    ⟨(some 35), none, (.mv (.c (.v (.int .i64 0))))⟩] false) (.block 0 (.loop [1, 3, 6, 33, 34, 35] s16b0))) (.seq [1, 3] (.seq [1, 3, 64] (.region [⟨(some 59), none, (.faddr 3 (.t 1))⟩,
    ⟨(some 60), none, (.load none (.t 59))⟩,
    ⟨(some 61), none, (.load (some 5) (.t 3))⟩,
    ⟨(some 62), none, (.call (.c (.fn 20 [])) [(.t 61)])⟩,
    ⟨(some 63), none, (.call (.c (.fn 15 [])) [(.t 60), (.c (.v (.int .i64 0))), (.t 62)])⟩,
    ⟨(some 64), none, (.un .not (.t 63))⟩] true) (.cond (.t 64) (.seq [2] (.region [⟨(some 2), none, (.mv (.c (.v (.int .i64 2))))⟩] false) .ret) .skip)) (.seq [] (.seq [75] (.region [⟨(some 65), none, (.faddr 4 (.t 1))⟩,
    ⟨(some 66), none, (.load none (.t 65))⟩,
    ⟨(some 67), none, (.len (.t 66))⟩,
    ⟨(some 68), none, (.bin .gtr .none (.t 67) (.c (.v (.int .i64 1))))⟩,
    ⟨(some 69), none, (.mv (.t 68))⟩,
    ⟨(some 70), (some (69, true)), (.load (some 5) (.t 3))⟩,
    ⟨(some 71), (some (69, true)), (.load (some 5) (.t 3))⟩,
    ⟨(some 72), (some (69, true)), (.call (.c (.fn 18 [])) [(.t 71)])⟩,
    ⟨(some 73), (some (69, true)), (.call (.c (.fn 17 [])) [(.t 70), (.t 72)])⟩,
    ⟨(some 74), (some (69, true)), (.bin .gtr .none (.t 73) (.c (.v (.int .i64 0))))⟩,
    ⟨(some 75), none, (.pick (.t 69) (.t 74) (.c (.v (.bool false))))⟩] true) (.cond (.t 75) (.seq [2] (.region [⟨(some 2), none, (.mv (.c (.v (.int .i64 3))))⟩] false) .ret) .skip)) (.seq [2] (.region [⟨(some 2), none, (.mv (.c (.v (.int .i64 0))))⟩] false) .ret)))))))))⟩
/- (standby/throttle.state).open -/
def s17 : SFn := 
  ⟨.pure, 2, [(.tmp 4)], (.seq [2, 3] (.region [⟨(some 2), none, (.box (.t 0))⟩,
    ⟨(some 3), none, (.box (.t 1))⟩,
    ⟨(some 4), none, (.mv (.c (.v (.int .i64 0))))⟩] false) (.seq [4] (.region [⟨(some 5), none, (.load (some 5) (.t 2))⟩,
    ⟨(some 6), none, (.mkfn 24 [(.t 3)])⟩,
    ⟨(some 7), none, (.call (.c (.fn 23 [])) [(.t 5), (.t 6)])⟩,
    ⟨(some 4), none, (.mv (.t 7))⟩] false) .ret))⟩
/- (standby/throttle.state).confirmed -/
def s18 : SFn := 
  ⟨.pure, 1, [(.tmp 2)], (.seq [1] (.region [⟨(some 1), none, (.box (.t 0))⟩,
    ⟨(some 2), none, (.mv (.c (.v (.int .i64 0))))⟩] false) (.seq [2] (.region [⟨(some 3), none, (.load (some 5) (.t 1))⟩,
    ⟨(some 4), none, (.call (.c (.fn 20 [])) [(.t 3)])⟩,
    ⟨(some 5), none, (.faddr 0 (.t 1))⟩,
    ⟨(some 6), none, (.faddr 3 (.t 5))⟩,
    ⟨(some 7), none, (.load none (.t 6))⟩,
    ⟨(some 8), none, (.bin .sub .none (.t 4) (.t 7))⟩,
    ⟨(some 2), none, (.mv (.t 8))⟩] true) .ret))⟩
/- (*standby/throttle.state).advance -/
def s19 : SFn := 
  ⟨.whole, 2, [(.tmp 4)], (.seq [0, 1] (.region [⟨(some 4), none, (.mv (.c (.v (.int .i64 0))))⟩] false) (.seq [0, 1] (.seq [0, 1, 5] (.region [⟨(some 6), none, (.mv (.t 0))⟩,
    ⟨(some 7), none, (.nilck (.t 6))⟩,
    ⟨(some 8), none, (.faddr 0 (.t 7))⟩,
    ⟨(some 9), none, (.load (some 5) (.t 8))⟩,
    ⟨(some 10), none, (.call (.c (.fn 16 [])) [(.t 9)])⟩,
    ⟨(some 5), none, (.mv (.t 10))⟩] false) (.seq [0, 1, 5, 12] (.region [⟨(some 11), none, (.mv (.t 5))⟩,
    ⟨(some 12), none, (.bin .neq .none (.t 11) (.c (.v (.int .i64 0))))⟩] false) (.cond (.t 12) (.seq [4] (.region [⟨(some 13), none, (.mv (.t 5))⟩,
    ⟨(some 4), none, (.mv (.t 13))⟩] false) .ret) .skip))) (.seq [0, 1] (.seq [0, 1, 21] (.region [⟨(some 14), none, (.mv (.t 1))⟩,
    ⟨(some 15), none, (.mv (.t 0))⟩,
    ⟨(some 16), none, (.nilck (.t 15))⟩,
    ⟨(some 17), none, (.faddr 0 (.t 16))⟩,
    ⟨(some 18), none, (.faddr 2 (.t 17))⟩,
    ⟨(some 19), none, (.load none (.t 18))⟩,
    ⟨(some 20), none, (.call (.c (.fn 15 [])) [(.t 14), (.t 19), (.c (.v (.int .i64 1073741824)))])⟩,
    ⟨(some 21), none, (.un .not (.t 20))⟩] false) (.cond (.t 21) (.seq [4] (.region [⟨(some 4), none, (.mv (.c (.v (.int .i64 24))))⟩] false) .ret) .skip)) (.seq [0] (.region [⟨(some 22), none, (.mv (.t 0))⟩,
    ⟨(some 23), none, (.mv (.t 1))⟩,
    ⟨(some 24), none, (.nilck (.t 22))⟩,
    ⟨(some 25), none, (.faddr 0 (.t 24))⟩,
    ⟨(some 26), none, (.faddr 2 (.t 25))⟩,
    ⟨none, none, (.store 1 (.t 26) (.t 23))⟩] false) (.seq [] (.region [⟨(some 27), none, (.mv (.t 0))⟩,
    ⟨(some 28), none, (.mv (.t 0))⟩,
    ⟨(some 29), none, (.nilck (.t 28))⟩,
    ⟨(some 30), none, (.faddr 0 (.t 29))⟩,
    ⟨(some 31), none, (.faddr 4 (.t 30))⟩,
    ⟨(some 32), none, (.load none (.t 31))⟩,
    ⟨(some 33), none, (.call (.c (.fn 25 [])) [(.t 32)])⟩,
    ⟨(some 34), none, (.nilck (.t 27))⟩,
    ⟨(some 35), none, (.faddr 0 (.t 34))⟩,
    ⟨(some 36), none, (.faddr 4 (.t 35))⟩,
    ⟨none, none, (.store 1 (.t 36) (.t 33))⟩] false) (.seq [4] (.region [⟨(some 4), none, (.mv (.c (.v (.int .i64 0))))⟩] false) .ret))))))⟩
/- (standby/throttle.state).total -/
def s20 : SFn := 
  ⟨.pure, 1, [(.tmp 2)], (.seq [1] (.region [⟨(some 1), none, (.box (.t 0))⟩,
    ⟨(some 2), none, (.mv (.c (.v (.int .i64 0))))⟩] false) (.seq [] (.seq [1, 3] (.region [⟨(some 4), none, (.faddr 0 (.t 1))⟩,
    ⟨(some 5), none, (.faddr 4 (.t 4))⟩,
    ⟨(some 6), none, (.load none (.t 5))⟩,
    ⟨(some 7), none, (.len (.t 6))⟩,
    ⟨(some 3), none, (.mv (.t 7))⟩] false) (.seq [1, 3, 9] (.region [⟨(some 8), none, (.mv (.t 3))⟩,
    ⟨(some 9), none, (.bin .gtr .none (.t 8) (.c (.v (.int .i64 0))))⟩] false) (.cond (.t 9) (.seq [2] (.region [⟨(some 10), none, (.faddr 0 (.t 1))⟩,
    ⟨(some 11), none, (.faddr 4 (.t 10))⟩,
    ⟨(some 12), none, (.load none (.t 11))⟩,
    ⟨(some 13), none, (.mv (.t 3))⟩,
    ⟨(some 14), none, (.bin .sub .none (.t 13) (.c (.v (.int .i64 1))))⟩,
    ⟨(some 15), none, (.iaddr 2 none (.t 12) (.t 14))⟩,
    ⟨(some 16), none, (.faddr 1 (.t 15))⟩,
    ⟨(some 17), none, (.load none (.t 16))⟩,
    ⟨(some 2), none, (.mv (.t 17))⟩] false) .ret) .skip))) (.seq [2] (.region [⟨(some 2), none, (.mv (.c (.v (.int .i64 0))))⟩] false) .ret)))⟩
/- (standby/throttle.state).bound -/
def s21 : SFn := 
  ⟨.pure, 1, [(.tmp 2)], (.seq [1] (.region [⟨(some 1), none, (.box (.t 0))⟩,
    ⟨(some 2), none, (.mv (.c (.v (.int .i64 0))))⟩] false) (.seq [2] (.region [⟨(some 3), none, (.faddr 0 (.t 1))⟩,
    ⟨(some 4), none, (.faddr 1 (.t 3))⟩,
    ⟨(some 5), none, (.load none (.t 4))⟩,
    ⟨(some 6), none, (.faddr 0 (.t 1))⟩,
    ⟨(some 7), none, (.faddr 0 (.t 6))⟩,
    ⟨(some 8), none, (.load none (.t 7))⟩,
    ⟨(some 9), none, (.bin .mul .none (.t 5) (.t 8))⟩,
    ⟨(some 2), none, (.mv (.t 9))⟩] false) .ret))⟩
/- (*standby/throttle.state).admit -/
def s22 : SFn := 
  ⟨.whole, 2, [(.tmp 4)], (.seq [0, 1] (.region [⟨(some 4), none, (.mv (.c (.v (.int .i64 0))))⟩] false) (.seq [0, 1, 5] (.region [⟨(some 7), none, (.mv (.t 0))⟩,
    ⟨(some 8), none, (.nilck (.t 7))⟩,
    ⟨(some 9), none, (.load (some 5) (.t 8))⟩,
    ⟨(some 10), none, (.call (.c (.fn 20 [])) [(.t 9)])⟩,
    ⟨(some 11), none, (.mv (.t 1))⟩,
    ⟨(some 12), none, (.bin .add .none (.t 10) (.t 11))⟩,
    ⟨(some 5), none, (.mv (.t 12))⟩] false) (.seq [0, 1, 5] (.seq [0, 1, 5, 14] (.region [⟨(some 13), none, (.mv (.t 5))⟩,
    ⟨(some 14), none, (.bin .gtr .none (.t 13) (.c (.v (.int .i64 1073741824))))⟩] false) (.cond (.t 14) (.seq [4] (.region [⟨(some 4), none, (.mv (.c (.v (.int .i64 11))))⟩] false) .ret) .skip)) (.seq [0, 1] (.seq [0, 1, 5, 6] (.region [⟨(some 15), none, (.mv (.t 0))⟩,
    ⟨(some 16), none, (.nilck (.t 15))⟩,
    ⟨(some 17), none, (.faddr 0 (.t 16))⟩,
    ⟨(some 18), none, (.faddr 4 (.t 17))⟩,
    ⟨(some 19), none, (.load none (.t 18))⟩,
    ⟨(some 20), none, (.len (.t 19))⟩,
    ⟨(some 6), none, (.mv (.t 20))⟩] false) (.seq [0, 1, 5, 6, 40] (.region [⟨(some 21), none, (.mv (.t 6))⟩,
    ⟨(some 22), none, (.bin .gtr .none (.t 21) (.c (.v (.int .i64 0))))⟩,
    ⟨(some 23), none, (.mv (.t 22))⟩,
    ⟨(some 24), (some (23, true)), (.mv (.t 0))⟩,
    ⟨(some 25), (some (23, true)), (.nilck (.t 24))⟩,
    ⟨(some 26), (some (23, true)), (.faddr 0 (.t 25))⟩,
    ⟨(some 27), (some (23, true)), (.faddr 4 (.t 26))⟩,
    ⟨(some 28), (some (23, true)), (.load none (.t 27))⟩,
    ⟨(some 29), (some (23, true)), (.mv (.t 6))⟩,
    ⟨(some 30), (some (23, true)), (.bin .sub .none (.t 29) (.c (.v (.int .i64 1))))⟩,
    ⟨(some 31), (some (23, true)), (.iaddr 2 none (.t 28) (.t 30))⟩,
    ⟨(some 32), (some (23, true)), (.faddr 0 (.t 31))⟩,
    ⟨(some 33), (some (23, true)), (.load none (.t 32))⟩,
    ⟨(some 34), (some (23, true)), (.mv (.t 0))⟩,
    ⟨(some 35), (some (23, true)), (.nilck (.t 34))⟩,
    ⟨(some 36), (some (23, true)), (.faddr 0 (.t 35))⟩,
    ⟨(some 37), (some (23, true)), (.faddr 2 (.t 36))⟩,
    ⟨(some 38), (some (23, true)), (.load none (.t 37))⟩,
    ⟨(some 39), (some (23, true)), (.bin .eql .none (.t 33) (.t 38))⟩,
    ⟨(some 40), none, (.pick (.t 23) (.t 39) (.c (.v (.bool false))))⟩] true) (.cond (.t 40) (.region [⟨(some 41), none, (.mv (.t 0))⟩,
    ⟨(some 42), none, (.nilck (.t 41))⟩,
    ⟨(some 43), none, (.faddr 0 (.t 42))⟩,
    ⟨(some 44), none, (.faddr 4 (.t 43))⟩,
    ⟨(some 45), none, (.load none (.t 44))⟩,
    ⟨(some 46), none, (.mv (.t 6))⟩,
    ⟨(some 47), none, (.bin .sub .none (.t 46) (.c (.v (.int .i64 1))))⟩,
    ⟨(some 48), none, (.mv (.t 5))⟩,
    ⟨(some 49), none, (.iaddr 2 none (.t 45) (.t 47))⟩,
    ⟨(some 50), none, (.faddr 1 (.t 49))⟩,
    ⟨none, none, (.store 1 (.t 50) (.t 48))⟩] false) (.region [⟨(some 51), none, (.mv (.t 0))⟩,
    ⟨(some 52), none, (.mv (.t 0))⟩,
    ⟨(some 53), none, (.nilck (.t 52))⟩,
    ⟨(some 54), none, (.faddr 0 (.t 53))⟩,
    ⟨(some 55), none, (.faddr 4 (.t 54))⟩,
    ⟨(some 56), none, (.load none (.t 55))⟩,
    ⟨(some 57), none, (.mv (.t 0))⟩,
    ⟨(some 58), none, (.nilck (.t 57))⟩,
    ⟨(some 59), none, (.load (some 5) (.t 58))⟩,
    ⟨(some 60), none, (.mv (.t 0))⟩,
    ⟨(some 61), none, (.nilck (.t 60))⟩,
    ⟨(some 62), none, (.load (some 5) (.t 61))⟩,
    ⟨(some 63), none, (.call (.c (.fn 18 [])) [(.t 62)])⟩,
    ⟨(some 64), none, (.call (.c (.fn 17 [])) [(.t 59), (.t 63)])⟩,
    ⟨(some 65), none, (.slice 2 (.t 56) (some (.t 64)) none)⟩,
    ⟨(some 66), none, (.mv (.t 0))⟩,
    ⟨(some 67), none, (.nilck (.t 66))⟩,
    ⟨(some 68), none, (.faddr 0 (.t 67))⟩,
    ⟨(some 69), none, (.faddr 2 (.t 68))⟩,
    ⟨(some 70), none, (.load none (.t 69))⟩,
    ⟨(some 71), none, (.mv (.t 5))⟩,
    ⟨(some 72), none, (.build [(.v (.int .i64 0)), (.v (.int .i64 0))] [(0, (1, (.t 70))), (1, (1, (.t 71)))])⟩,
    ⟨(some 73), none, (.bslice [(.v (.int .i64 0)), (.v (.int .i64 0))] 1 [(0, (2, (.t 72)))])⟩,
    ⟨(some 74), none, (.append 2 16 (.t 65) (.t 73))⟩,
    ⟨(some 75), none, (.nilck (.t 51))⟩,
    ⟨(some 76), none, (.faddr 0 (.t 75))⟩,
    ⟨(some 77), none, (.faddr 4 (.t 76))⟩,
    ⟨none, none, (.store 1 (.t 77) (.t 74))⟩] true)))) (.seq [0, 1] (.seq [0, 1, 84] (.region [⟨(some 78), none, (.mv (.t 0))⟩,
    ⟨(some 79), none, (.nilck (.t 78))⟩,
    ⟨(some 80), none, (.faddr 0 (.t 79))⟩,
    ⟨(some 81), none, (.faddr 4 (.t 80))⟩,
    ⟨(some 82), none, (.load none (.t 81))⟩,
    ⟨(some 83), none, (.len (.t 82))⟩,
    ⟨(some 84), none, (.bin .gtr .none (.t 83) (.c (.v (.int .i64 4096))))⟩] false) (.cond (.t 84) (.seq [4] (.region [⟨(some 4), none, (.mv (.c (.v (.int .i64 11))))⟩] false) .ret) .skip)) (.seq [] (.region [⟨(some 85), none, (.mv (.t 0))⟩,
    ⟨(some 86), none, (.nilck (.t 85))⟩,
    ⟨(some 87), none, (.faddr 0 (.t 86))⟩,
    ⟨(some 88), none, (.faddr 3 (.t 87))⟩,
    ⟨(some 89), none, (.load none (.t 88))⟩,
    ⟨(some 90), none, (.mv (.t 1))⟩,
    ⟨(some 91), none, (.bin .add .none (.t 89) (.t 90))⟩,
    ⟨(some 92), none, (.nilck (.t 85))⟩,
    ⟨(some 93), none, (.faddr 0 (.t 92))⟩,
    ⟨(some 94), none, (.faddr 3 (.t 93))⟩,
    ⟨none, none, (.store 1 (.t 94) (.t 91))⟩] false) (.seq [4] (.region [⟨(some 4), none, (.mv (.c (.v (.int .i64 0))))⟩] false) .ret)))))))⟩
/- (standby/throttle.state).first -/
def s23 : SFn := 
  ⟨.whole, 2, [(.tmp 4)], (.seq [1, 2] (.region [⟨(some 2), none, (.box (.t 0))⟩,
    ⟨(some 4), none, (.mv (.c (.v (.int .i64 0))))⟩] false) (.seq [2] (.seq [2, 5] (.region [⟨(some 6), none, (.faddr 0 (.t 2))⟩,
    ⟨(some 7), none, (.faddr 4 (.t 6))⟩,
    ⟨(some 8), none, (.load none (.t 7))⟩,
    ⟨(some 9), none, (.mv (.t 1))⟩,
    ⟨(some 10), none, (.call (.c (.fn 26 [])) [(.t 8), (.t 9)])⟩,
    ⟨(some 5), none, (.mv (.t 10))⟩] false) (.seq [2, 5, 12] (.region [⟨(some 11), none, (.mv (.t 5))⟩,
    ⟨(some 12), none, (.bin .geq .none (.t 11) (.c (.v (.int .i64 0))))⟩] false) (.cond (.t 12) (.seq [4] (.region [⟨(some 13), none, (.mv (.t 5))⟩,
    ⟨(some 4), none, (.mv (.t 13))⟩] false) .ret) .skip))) (.seq [4] (.region [⟨(some 14), none, (.faddr 0 (.t 2))⟩,
    ⟨(some 15), none, (.faddr 4 (.t 14))⟩,
    ⟨(some 16), none, (.load none (.t 15))⟩,
    ⟨(some 17), none, (.len (.t 16))⟩,
    ⟨(some 4), none, (.mv (.t 17))⟩] false) .ret)))⟩
/- (standby/throttle.state).open$1 -/
def s24 : SFn := 
  ⟨.whole, 2, [(.tmp 3)], (.seq [1, 2] (.region [⟨(some 2), none, (.box (.t 0))⟩,
    ⟨(some 3), none, (.mv (.c (.v (.bool false))))⟩] false) (.seq [3] (.region [⟨(some 4), none, (.faddr 1 (.t 2))⟩,
    ⟨(some 5), none, (.load none (.t 4))⟩,
    ⟨(some 6), none, (.load none (.t 1))⟩,
    ⟨(some 7), none, (.bin .gtr .none (.t 5) (.t 6))⟩,
    ⟨(some 3), none, (.mv (.t 7))⟩] false) .ret))⟩
/- slices.Clone[[]standby/api.Mark,standby/api.Mark] -/
def s25 : SFn := 
  ⟨.fresh, 1, [(.tmp 2)], (.seq [0] (.region [⟨(some 2), none, (.mv (.c (.v (.slice none 0 0))))⟩] false) (.seq [0] (.seq [0, 4] (.region [⟨(some 3), none, (.mv (.t 0))⟩,
    ⟨(some 4), none, (.bin .eql .nilS (.t 3) (.c (.v (.slice none 0 0))))⟩] false) (.cond (.t 4) (.seq [2] (.region [⟨(some 2), none, (.mv (.c (.v (.slice none 0 0))))⟩] false) .ret) .skip)) (.seq [2] (.region [⟨(some 5), none, (.bslice [(.v (.int .i64 0)), (.v (.int .i64 0))] 0 [])⟩,
    ⟨(some 6), none, (.mv (.t 0))⟩,
    ⟨(some 7), none, (.append 2 16 (.t 5) (.t 6))⟩,
    ⟨(some 2), none, (.mv (.t 7))⟩] false) .ret)))⟩
/- slices.IndexFunc[[]standby/api.Mark,standby/api.Mark] -/
def s26b0 : SCode := 
  (.seq [0, 1, 7, 8, 9] (.region [⟨(some 9), none, (.bin .lss .none (.t 8) (.t 7))⟩] false) (.seq [0, 1, 7, 8] (.cond (.t 9) .skip (.exit 0)) (.seq [0, 1, 7, 8] (.block 1 (.seq [0, 1, 5, 7, 8] (.region [⟨(some 10), none, (.mv (.t 8))⟩,
    ⟨(some 5), none, (.mv (.t 10))⟩] false) (.seq [0, 1, 5, 7, 8, 16] (.region [⟨(some 11), none, (.mv (.t 1))⟩,
    ⟨(some 12), none, (.mv (.t 0))⟩,
    ⟨(some 13), none, (.mv (.t 5))⟩,
    ⟨(some 14), none, (.iaddr 2 none (.t 12) (.t 13))⟩,
    ⟨(some 15), none, (.load (some 2) (.t 14))⟩,
    ⟨(some 16), none, (.call (.t 11) [(.t 15)])⟩] false) (.cond (.t 16) (.seq [4] (.region [⟨(some 17), none, (.mv (.t 5))⟩,
    ⟨(some 4), none, (.mv (.t 17))⟩] false) .ret) .skip)))) (.region [⟨(some 18), none, (.bin .add .none (.t 8) (.c (.v (.int .i64 1))))⟩,
    ⟨(some 8), none, (.mv (.t 18))⟩] false))))
def s26 : SFn := 
  ⟨.whole, 2, [(.tmp 4)], (.seq [0, 1] (.region [⟨(some 4), none, (.mv (.c (.v (.int .i64 0))))⟩] false) (.seq [] (.seq [0, 1, 7, 8] (.region [⟨(some 6), none, (.mv (.t 0))⟩,
    ⟨(some 7), none, (.len (.t 6))⟩,
    ⟨(some 8), none, (.mv (.c (.v (.int .i64 0))))⟩] false) (.block 0 (.loop [0, 1, 7, 8] s26b0))) (.seq [4] (.region [⟨(some 4), none, (.mv (.c (.v (.int .i64 (-1)))))⟩] false) .ret)))⟩

def T : FuncId → Option SFn
  | 3 => some s3
  | 4 => some s4
  | 5 => some s5
  | 6 => some s6
  | 7 => some s7
  | 8 => some s8
  | 9 => some s9
  | 10 => some s10
  | 11 => some s11
  | 12 => some s12
  | 13 => some s13
  | 14 => some s14
  | 15 => some s15
  | 16 => some s16
  | 17 => some s17
  | 18 => some s18
  | 19 => some s19
  | 20 => some s20
  | 21 => some s21
  | 22 => some s22
  | 23 => some s23
  | 24 => some s24
  | 25 => some s25
  | 26 => some s26
  | _ => none

theorem T3 : T 3 = some s3 := rfl
theorem T4 : T 4 = some s4 := rfl
theorem T5 : T 5 = some s5 := rfl
theorem T6 : T 6 = some s6 := rfl
theorem T7 : T 7 = some s7 := rfl
theorem T8 : T 8 = some s8 := rfl
theorem T9 : T 9 = some s9 := rfl
theorem T10 : T 10 = some s10 := rfl
theorem T11 : T 11 = some s11 := rfl
theorem T12 : T 12 = some s12 := rfl
theorem T13 : T 13 = some s13 := rfl
theorem T14 : T 14 = some s14 := rfl
theorem T15 : T 15 = some s15 := rfl
theorem T16 : T 16 = some s16 := rfl
theorem T17 : T 17 = some s17 := rfl
theorem T18 : T 18 = some s18 := rfl
theorem T19 : T 19 = some s19 := rfl
theorem T20 : T 20 = some s20 := rfl
theorem T21 : T 21 = some s21 := rfl
theorem T22 : T 22 = some s22 := rfl
theorem T23 : T 23 = some s23 := rfl
theorem T24 : T 24 = some s24 := rfl
theorem T25 : T 25 = some s25 := rfl
theorem T26 : T 26 = some s26 := rfl

set_option maxRecDepth 100000
theorem t3 : stripFn Try.prog kd 3 Try.f3 = some s3 := by kernel_rfl
theorem t4 : stripFn Try.prog kd 4 Try.f4 = some s4 := by kernel_rfl
theorem t5 : stripFn Try.prog kd 5 Try.f5 = some s5 := by kernel_rfl
theorem t6 : stripFn Try.prog kd 6 Try.f6 = some s6 := by kernel_rfl
theorem t7 : stripFn Try.prog kd 7 Try.f7 = some s7 := by kernel_rfl
theorem t8 : stripFn Try.prog kd 8 Try.f8 = some s8 := by kernel_rfl
theorem t9 : stripFn Try.prog kd 9 Try.f9 = some s9 := by kernel_rfl
theorem t10 : stripFn Try.prog kd 10 Try.f10 = some s10 := by kernel_rfl
theorem t11 : stripFn Try.prog kd 11 Try.f11 = some s11 := by kernel_rfl
theorem t12 : stripFn Try.prog kd 12 Try.f12 = some s12 := by kernel_rfl
theorem t13 : stripFn Try.prog kd 13 Try.f13 = some s13 := by kernel_rfl
theorem t14 : stripFn Try.prog kd 14 Try.f14 = some s14 := by kernel_rfl
theorem t15 : stripFn Try.prog kd 15 Try.f15 = some s15 := by kernel_rfl
theorem t16 : stripFn Try.prog kd 16 Try.f16 = some s16 := by kernel_rfl
theorem t17 : stripFn Try.prog kd 17 Try.f17 = some s17 := by kernel_rfl
theorem t18 : stripFn Try.prog kd 18 Try.f18 = some s18 := by kernel_rfl
theorem t19 : stripFn Try.prog kd 19 Try.f19 = some s19 := by kernel_rfl
theorem t20 : stripFn Try.prog kd 20 Try.f20 = some s20 := by kernel_rfl
theorem t21 : stripFn Try.prog kd 21 Try.f21 = some s21 := by kernel_rfl
theorem t22 : stripFn Try.prog kd 22 Try.f22 = some s22 := by kernel_rfl
theorem t23 : stripFn Try.prog kd 23 Try.f23 = some s23 := by kernel_rfl
theorem t24 : stripFn Try.prog kd 24 Try.f24 = some s24 := by kernel_rfl
theorem t25 : stripFn Try.prog kd 25 Try.f25 = some s25 := by kernel_rfl
theorem t26 : stripFn Try.prog kd 26 Try.f26 = some s26 := by kernel_rfl

theorem hT : ∀ f s, T f = some s → ∃ fn, Try.prog.funcs[f]? = some fn ∧ stripFn Try.prog kd f fn = some s := by
  intro f s h
  unfold T at h
  split at h
  · cases h; exact ⟨_, Try.func3, t3⟩
  · cases h; exact ⟨_, Try.func4, t4⟩
  · cases h; exact ⟨_, Try.func5, t5⟩
  · cases h; exact ⟨_, Try.func6, t6⟩
  · cases h; exact ⟨_, Try.func7, t7⟩
  · cases h; exact ⟨_, Try.func8, t8⟩
  · cases h; exact ⟨_, Try.func9, t9⟩
  · cases h; exact ⟨_, Try.func10, t10⟩
  · cases h; exact ⟨_, Try.func11, t11⟩
  · cases h; exact ⟨_, Try.func12, t12⟩
  · cases h; exact ⟨_, Try.func13, t13⟩
  · cases h; exact ⟨_, Try.func14, t14⟩
  · cases h; exact ⟨_, Try.func15, t15⟩
  · cases h; exact ⟨_, Try.func16, t16⟩
  · cases h; exact ⟨_, Try.func17, t17⟩
  · cases h; exact ⟨_, Try.func18, t18⟩
  · cases h; exact ⟨_, Try.func19, t19⟩
  · cases h; exact ⟨_, Try.func20, t20⟩
  · cases h; exact ⟨_, Try.func21, t21⟩
  · cases h; exact ⟨_, Try.func22, t22⟩
  · cases h; exact ⟨_, Try.func23, t23⟩
  · cases h; exact ⟨_, Try.func24, t24⟩
  · cases h; exact ⟨_, Try.func25, t25⟩
  · cases h; exact ⟨_, Try.func26, t26⟩
  · cases h

theorem hmix : Try.prog.follows .mixedOrders = true := by kernel_rfl

/-- What the evaluator answers, a call of the program comes to. -/
theorem calls : CallOk Try.prog (callL T) := callL_sound hmix hT

end VS
end Go.Proofs.Ytbnhmahkgeaajaa
