/- The functions of the program in compact form, as 'sfn.py' prints them; each is what 'stripFn' makes of the program's own. -/
import Derived.Test.YtohfbjgcfbkgnaaVsLim
import Derived.Test.YtohfbjgcfbkgnaaProg
namespace Go.Proofs.Ytohfbjgcfbkgnaa
namespace VS

def kd : FuncId → Kind
  | 13 => .keep
  | 15 => .keep
  | 16 => .keep
  | 17 => .keep
  | 18 => .keep
  | 19 => .keep
  | 21 => .keep
  | 22 => .keep
  | 23 => .keep
  | 24 => .keep
  | 25 => .keep
  | 26 => .keep
  | 27 => .keep
  | 51 => .grow
  | 52 => .whole
  | 54 => .whole
  | 55 => .whole
  | 56 => .whole
  | 57 => .whole
  | 58 => .whole
  | 59 => .whole
  | 61 => .whole
  | 63 => .whole
  | 64 => .whole
  | 65 => .whole
  | 67 => .whole
  | 69 => .whole
  | 70 => .whole
  | 72 => .whole
  | 74 => .whole
  | 75 => .whole
  | 76 => .whole
  | 84 => .whole
  | 85 => .whole
  | 86 => .whole
  | 87 => .whole
  | 88 => .whole
  | _ => .plain

/- standby/standbylaw03.WireSizes -/
def s3b0 : SCode := 
  (.seq [0, 1, 5, 6, 7, 8] (.seq [0, 1, 5, 6, 7, 8, 30] (.region [⟨(some 29), none, (.mv (.t 8))⟩,
    ⟨(some 30), none, (.bin .gtr .none (.t 29) (.c (.v (.int .i64 0))))⟩] false) (.cond (.t 30) .skip (.exit 0))) (.seq [0, 1, 5, 6, 7, 8] (.block 1 (.region [⟨(some 33), none, (.mv (.t 7))⟩,
    ⟨(some 34), none, (.bin .add .none (.t 33) (.c (.v (.int .i64 1))))⟩,
    ⟨(some 7), none, (.mv (.t 34))⟩] false)) (.region [⟨(some 31), none, (.mv (.t 8))⟩,
    ⟨(some 32), none, (.bin .shr .none (.t 31) (.c (.v (.int .u64 7))))⟩,
    ⟨(some 8), none, (.mv (.t 32))⟩] false)))
def s3 : SFn := 
  ⟨.plain, 2, [(.tmp 4)], (.seq [0, 1] (.region [⟨(some 4), none, (.mv (.c (.v (.bool false))))⟩] false) (.seq [0, 1] (.seq [0, 1, 16] (.region [⟨(some 9), none, (.mv (.t 0))⟩,
    ⟨(some 10), none, (.call (.c (.fn 11 [])) [(.t 9)])⟩,
    ⟨(some 11), none, (.un .not (.t 10))⟩,
    ⟨(some 12), none, (.mv (.t 11))⟩,
    ⟨(some 13), (some (12, false)), (.mv (.t 1))⟩,
    ⟨(some 14), (some (12, false)), (.call (.c (.fn 11 [])) [(.t 13)])⟩,
    ⟨(some 15), (some (12, false)), (.un .not (.t 14))⟩,
    ⟨(some 16), none, (.pick (.t 12) (.c (.v (.bool true))) (.t 15))⟩] false) (.cond (.t 16) (.seq [4] (.region [⟨(some 17), none, (.call (.c (.fn 13 [])) [(.c (.v (.slice none 0 0))), (.c (.v (.int .i64 (-1))))])⟩,
    ⟨(some 18), none, (.bslice [(.v (.int .u8 0))] 1 [(0, (1, (.c (.v (.int .u8 0)))))])⟩,
    ⟨(some 19), none, (.call (.c (.fn 12 [])) [(.t 17), (.t 18)])⟩,
    ⟨(some 20), none, (.mv (.t 19))⟩,
    ⟨(some 21), (some (20, true)), (.call (.c (.fn 14 [])) [])⟩,
    ⟨(some 22), none, (.pick (.t 20) (.t 21) (.c (.v (.bool false))))⟩,
    ⟨(some 4), none, (.mv (.t 22))⟩] false) .ret) .skip)) (.seq [0, 1, 5, 6] (.region [⟨(some 23), none, (.mv (.t 0))⟩,
    ⟨(some 24), none, (.call (.c (.fn 13 [])) [(.c (.v (.slice none 0 0))), (.t 23)])⟩,
    ⟨(some 25), none, (.mv (.t 1))⟩,
    ⟨(some 26), none, (.call (.c (.fn 13 [])) [(.c (.v (.slice none 0 0))), (.t 25)])⟩,
    ⟨(some 5), none, (.mv (.t 24))⟩,
    ⟨(some 6), none, (.mv (.t 26))⟩] false) (.seq [0, 1, 5, 6, 7] (.region [⟨(some 7), none, (.mv (.c (.v (.int .i64 1))))⟩] false) (.seq [0, 1, 5, 6, 7] (.seq [0, 1, 5, 6, 7, 8] (.region [⟨(some 27), none, (.mv (.t 0))⟩,
    ⟨(some 28), none, (.bin .shr .none (.t 27) (.c (.v (.int .u64 7))))⟩,
    ⟨(some 8), none, (.mv (.t 28))⟩] false) (.block 0 (.loop [0, 1, 5, 6, 7, 8] s3b0))) (.seq [0, 1, 5, 6, 7] (.seq [0, 1, 5, 6, 7, 56] (.region [⟨(some 35), none, (.mv (.t 0))⟩,
    ⟨(some 36), none, (.mv (.t 1))⟩,
    ⟨(some 37), none, (.bin .gtr .none (.t 35) (.t 36))⟩,
    ⟨(some 38), none, (.mv (.t 37))⟩,
    ⟨(some 39), (some (38, true)), (.mv (.t 5))⟩,
    ⟨(some 40), (some (38, true)), (.len (.t 39))⟩,
    ⟨(some 41), (some (38, true)), (.mv (.t 6))⟩,
    ⟨(some 42), (some (38, true)), (.len (.t 41))⟩,
    ⟨(some 43), (some (38, true)), (.bin .lss .none (.t 40) (.t 42))⟩,
    ⟨(some 44), none, (.pick (.t 38) (.t 43) (.c (.v (.bool false))))⟩,
    ⟨(some 45), none, (.mv (.t 44))⟩,
    ⟨(some 46), (some (45, false)), (.mv (.t 0))⟩,
    ⟨(some 47), (some (45, false)), (.mv (.t 1))⟩,
    ⟨(some 48), (some (45, false)), (.bin .lss .none (.t 46) (.t 47))⟩,
    ⟨(some 49), (some (45, false)), (.mv (.t 48))⟩,
    ⟨(some 50), (some (49, true)), (.mv (.t 5))⟩,
    ⟨(some 51), (some (49, true)), (.len (.t 50))⟩,
    ⟨(some 52), (some (49, true)), (.mv (.t 6))⟩,
    ⟨(some 53), (some (49, true)), (.len (.t 52))⟩,
    ⟨(some 54), (some (49, true)), (.bin .gtr .none (.t 51) (.t 53))⟩,
    ⟨(some 55), (some (45, false)), (.pick (.t 49) (.t 54) (.c (.v (.bool false))))⟩,
    ⟨(some 56), none, (.pick (.t 45) (.c (.v (.bool true))) (.t 55))⟩] false) (.cond (.t 56) (.seq [4] (.region [⟨(some 4), none, (.mv (.c (.v (.bool false))))⟩] false) .ret) .skip)) (.seq [4] (.region [⟨(some 57), none, (.mv (.t 5))⟩,
    ⟨(some 58), none, (.len (.t 57))⟩,
    ⟨(some 59), none, (.mv (.t 7))⟩,
    ⟨(some 60), none, (.bin .eql .none (.t 58) (.t 59))⟩,
    ⟨(some 61), none, (.mv (.t 60))⟩,
    ⟨(some 62), (some (61, true)), (.mv (.t 0))⟩,
    ⟨(some 63), (some (61, true)), (.mv (.t 1))⟩,
    ⟨(some 64), (some (61, true)), (.bin .eql .none (.t 62) (.t 63))⟩,
    ⟨(some 65), (some (61, true)), (.mv (.t 5))⟩,
    ⟨(some 66), (some (61, true)), (.mv (.t 6))⟩,
    ⟨(some 67), (some (61, true)), (.call (.c (.fn 12 [])) [(.t 65), (.t 66)])⟩,
    ⟨(some 68), (some (61, true)), (.bin .eql .bool (.t 64) (.t 67))⟩,
    ⟨(some 69), none, (.pick (.t 61) (.t 68) (.c (.v (.bool false))))⟩,
    ⟨(some 70), none, (.mv (.t 69))⟩,
    ⟨(some 71), (some (70, true)), (.call (.c (.fn 14 [])) [])⟩,
    ⟨(some 72), none, (.pick (.t 70) (.t 71) (.c (.v (.bool false))))⟩,
    ⟨(some 4), none, (.mv (.t 72))⟩] false) .ret)))))))⟩
/- standby/standbylaw03.WireNumbers -/
def s4b0 : SCode := 
  (.seq [0, 1, 2, 27, 28, 29, 30] (.region [⟨(some 30), none, (.bin .lss .none (.t 29) (.t 28))⟩] false) (.seq [0, 1, 2, 27, 28, 29] (.cond (.t 30) .skip (.exit 0)) (.seq [0, 1, 2, 27, 28, 29] (.block 1 (.seq [0, 1, 2, 8, 27, 28, 29] (.region [⟨(some 31), none, (.iaddr 1 none (.t 27) (.t 29))⟩,
    ⟨(some 32), none, (.load none (.t 31))⟩,
    ⟨(some 8), none, (.mv (.t 32))⟩] false) (.seq [0, 1, 2, 27, 28, 29, 40] (.region [⟨(some 33), none, (.mv (.t 0))⟩,
    ⟨(some 34), none, (.mv (.t 8))⟩,
    ⟨(some 35), none, (.call (.c (.fn 13 [])) [(.t 33), (.t 34)])⟩,
    ⟨(some 36), none, (.mv (.t 0))⟩,
    ⟨(some 37), none, (.mv (.t 8))⟩,
    ⟨(some 38), none, (.call (.c (.fn 15 [])) [(.t 36), (.t 37)])⟩,
    ⟨(some 39), none, (.call (.c (.fn 12 [])) [(.t 35), (.t 38)])⟩,
    ⟨(some 40), none, (.un .not (.t 39))⟩] false) (.cond (.t 40) (.seq [6] (.region [⟨(some 6), none, (.mv (.c (.v (.bool false))))⟩] false) .ret) .skip)))) (.region [⟨(some 41), none, (.bin .add .none (.t 29) (.c (.v (.int .i64 1))))⟩,
    ⟨(some 29), none, (.mv (.t 41))⟩] false))))
def s4 : SFn := 
  ⟨.plain, 3, [(.tmp 6)], (.seq [0, 1, 2] (.region [⟨(some 6), none, (.mv (.c (.v (.bool false))))⟩] false) (.seq [0, 1, 2] (.seq [0, 1, 2, 21] (.region [⟨(some 9), none, (.mv (.t 0))⟩,
    ⟨(some 10), none, (.len (.t 9))⟩,
    ⟨(some 11), none, (.bin .gtr .none (.t 10) (.c (.v (.int .i64 200))))⟩,
    ⟨(some 12), none, (.mv (.t 11))⟩,
    ⟨(some 13), (some (12, false)), (.mv (.t 1))⟩,
    ⟨(some 14), (some (12, false)), (.len (.t 13))⟩,
    ⟨(some 15), (some (12, false)), (.bin .gtr .none (.t 14) (.c (.v (.int .i64 600))))⟩,
    ⟨(some 16), none, (.pick (.t 12) (.c (.v (.bool true))) (.t 15))⟩,
    ⟨(some 17), none, (.mv (.t 16))⟩,
    ⟨(some 18), (some (17, false)), (.mv (.t 2))⟩,
    ⟨(some 19), (some (17, false)), (.len (.t 18))⟩,
    ⟨(some 20), (some (17, false)), (.bin .gtr .none (.t 19) (.c (.v (.int .i64 200))))⟩,
    ⟨(some 21), none, (.pick (.t 17) (.c (.v (.bool true))) (.t 20))⟩] false) (.cond (.t 21) (.seq [6] (.region [⟨(some 22), none, (.call (.c (.fn 14 [])) [])⟩,
    ⟨(some 6), none, (.mv (.t 22))⟩] false) .ret) .skip)) (.seq [0, 1, 2] (.seq [0, 1, 2, 27, 28, 29] (.region [⟨(some 23), none, (.mv (.t 1))⟩,
    ⟨(some 24), none, (.len (.t 23))⟩,
    ⟨(some 25), none, (.bslice [(.v (.int .i64 0))] 1 [(0, (1, (.t 24)))])⟩,
    ⟨(some 26), none, (.mv (.t 2))⟩,
    ⟨(some 27), none, (.append 1 8 (.t 25) (.t 26))⟩,
    ⟨(some 28), none, (.len (.t 27))⟩,
    ⟨(some 29), none, (.mv (.c (.v (.int .i64 0))))⟩] false) (.block 0 (.loop [0, 1, 2, 27, 28, 29] s4b0))) (.seq [6] (.region [⟨(some 42), none, (.mv (.t 0))⟩,
    ⟨(some 43), none, (.mv (.t 1))⟩,
    ⟨(some 44), none, (.call (.c (.fn 16 [])) [(.t 42), (.t 43)])⟩,
    ⟨(some 45), none, (.mv (.t 0))⟩,
    ⟨(some 46), none, (.mv (.t 1))⟩,
    ⟨(some 47), none, (.call (.c (.fn 17 [])) [(.t 45), (.t 46)])⟩,
    ⟨(some 48), none, (.call (.c (.fn 12 [])) [(.t 44), (.t 47)])⟩,
    ⟨(some 49), none, (.mv (.t 48))⟩,
    ⟨(some 50), (some (49, true)), (.mv (.t 0))⟩,
    ⟨(some 51), (some (49, true)), (.mv (.t 2))⟩,
    ⟨(some 52), (some (49, true)), (.call (.c (.fn 18 [])) [(.t 50), (.t 51)])⟩,
    ⟨(some 53), (some (49, true)), (.mv (.t 0))⟩,
    ⟨(some 54), (some (49, true)), (.mv (.t 2))⟩,
    ⟨(some 55), (some (49, true)), (.call (.c (.fn 19 [])) [(.t 53), (.t 54)])⟩,
    ⟨(some 56), (some (49, true)), (.call (.c (.fn 12 [])) [(.t 52), (.t 55)])⟩,
    ⟨(some 57), none, (.pick (.t 49) (.t 56) (.c (.v (.bool false))))⟩,
    ⟨(some 58), none, (.mv (.t 57))⟩,
    ⟨(some 59), (some (58, true)), (.call (.c (.fn 14 [])) [])⟩,
    ⟨(some 60), none, (.pick (.t 58) (.t 59) (.c (.v (.bool false))))⟩,
    ⟨(some 6), none, (.mv (.t 60))⟩] false) .ret))))⟩
/- standby/standbylaw03.WireLists -/
def s5 : SFn := 
  ⟨.plain, 2, [(.tmp 4)], (.seq [0, 3] (.region [⟨(some 3), none, (.box (.t 1))⟩,
    ⟨(some 4), none, (.mv (.c (.v (.bool false))))⟩] false) (.seq [0, 3] (.seq [0, 3, 12] (.region [⟨(some 5), none, (.mv (.t 0))⟩,
    ⟨(some 6), none, (.len (.t 5))⟩,
    ⟨(some 7), none, (.bin .gtr .none (.t 6) (.c (.v (.int .i64 200))))⟩,
    ⟨(some 8), none, (.mv (.t 7))⟩,
    ⟨(some 9), (some (8, false)), (.load (some 4) (.t 3))⟩,
    ⟨(some 10), (some (8, false)), (.call (.c (.fn 20 [])) [(.t 9)])⟩,
    ⟨(some 11), (some (8, false)), (.un .not (.t 10))⟩,
    ⟨(some 12), none, (.pick (.t 8) (.c (.v (.bool true))) (.t 11))⟩] false) (.cond (.t 12) (.seq [4] (.region [⟨(some 13), none, (.call (.c (.fn 14 [])) [])⟩,
    ⟨(some 4), none, (.mv (.t 13))⟩] false) .ret) .skip)) (.seq [4] (.region [⟨(some 14), none, (.mv (.t 0))⟩,
    ⟨(some 15), none, (.faddr 1 (.t 3))⟩,
    ⟨(some 16), none, (.load none (.t 15))⟩,
    ⟨(some 17), none, (.call (.c (.fn 21 [])) [(.t 14), (.t 16)])⟩,
    ⟨(some 18), none, (.mv (.t 0))⟩,
    ⟨(some 19), none, (.faddr 1 (.t 3))⟩,
    ⟨(some 20), none, (.load none (.t 19))⟩,
    ⟨(some 21), none, (.call (.c (.fn 22 [])) [(.t 18), (.t 20)])⟩,
    ⟨(some 22), none, (.call (.c (.fn 12 [])) [(.t 17), (.t 21)])⟩,
    ⟨(some 23), none, (.mv (.t 22))⟩,
    ⟨(some 24), (some (23, true)), (.mv (.t 0))⟩,
    ⟨(some 25), (some (23, true)), (.faddr 2 (.t 3))⟩,
    ⟨(some 26), (some (23, true)), (.load none (.t 25))⟩,
    ⟨(some 27), (some (23, true)), (.call (.c (.fn 23 [])) [(.t 24), (.t 26)])⟩,
    ⟨(some 28), (some (23, true)), (.mv (.t 0))⟩,
    ⟨(some 29), (some (23, true)), (.faddr 2 (.t 3))⟩,
    ⟨(some 30), (some (23, true)), (.load none (.t 29))⟩,
    ⟨(some 31), (some (23, true)), (.call (.c (.fn 24 [])) [(.t 28), (.t 30)])⟩,
    ⟨(some 32), (some (23, true)), (.call (.c (.fn 12 [])) [(.t 27), (.t 31)])⟩,
    ⟨(some 33), none, (.pick (.t 23) (.t 32) (.c (.v (.bool false))))⟩,
    ⟨(some 34), none, (.mv (.t 33))⟩,
    ⟨(some 35), (some (34, true)), (.mv (.t 0))⟩,
    ⟨(some 36), (some (34, true)), (.faddr 3 (.t 3))⟩,
    ⟨(some 37), (some (34, true)), (.load none (.t 36))⟩,
    ⟨(some 38), (some (34, true)), (.call (.c (.fn 25 [])) [(.t 35), (.t 37)])⟩,
    ⟨(some 39), (some (34, true)), (.mv (.t 0))⟩,
    ⟨(some 40), (some (34, true)), (.faddr 3 (.t 3))⟩,
    ⟨(some 41), (some (34, true)), (.load none (.t 40))⟩,
    ⟨(some 42), (some (34, true)), (.call (.c (.fn 26 [])) [(.t 39), (.t 41)])⟩,
    ⟨(some 43), (some (34, true)), (.call (.c (.fn 12 [])) [(.t 38), (.t 42)])⟩,
    ⟨(some 44), none, (.pick (.t 34) (.t 43) (.c (.v (.bool false))))⟩,
    ⟨(some 45), none, (.mv (.t 44))⟩,
    ⟨(some 46), (some (45, true)), (.call (.c (.fn 14 [])) [])⟩,
    ⟨(some 47), none, (.pick (.t 45) (.t 46) (.c (.v (.bool false))))⟩,
    ⟨(some 4), none, (.mv (.t 47))⟩] true) .ret)))⟩
/- standby/standbylaw03.WireAppends -/
def s6 : SFn := 
  ⟨.plain, 3, [(.tmp 6)], (.seq [0, 2, 4] (.region [⟨(some 4), none, (.box (.t 1))⟩,
    ⟨(some 6), none, (.mv (.c (.v (.bool false))))⟩] false) (.seq [0, 2, 4] (.seq [0, 2, 4, 16] (.region [⟨(some 9), none, (.mv (.t 0))⟩,
    ⟨(some 10), none, (.len (.t 9))⟩,
    ⟨(some 11), none, (.bin .gtr .none (.t 10) (.c (.v (.int .i64 200))))⟩,
    ⟨(some 12), none, (.mv (.t 11))⟩,
    ⟨(some 13), (some (12, false)), (.load (some 4) (.t 4))⟩,
    ⟨(some 14), (some (12, false)), (.call (.c (.fn 20 [])) [(.t 13)])⟩,
    ⟨(some 15), (some (12, false)), (.un .not (.t 14))⟩,
    ⟨(some 16), none, (.pick (.t 12) (.c (.v (.bool true))) (.t 15))⟩] false) (.cond (.t 16) (.seq [6] (.region [⟨(some 17), none, (.call (.c (.fn 14 [])) [])⟩,
    ⟨(some 6), none, (.mv (.t 17))⟩] false) .ret) .skip)) (.seq [0, 2, 4, 7] (.region [⟨(some 18), none, (.mv (.t 0))⟩,
    ⟨(some 19), none, (.call (.c (.fn 27 [])) [(.t 18)])⟩,
    ⟨(some 7), none, (.mv (.t 19))⟩] false) (.seq [0, 7, 8] (.region [⟨(some 20), none, (.mv (.t 0))⟩,
    ⟨(some 21), none, (.mv (.t 2))⟩,
    ⟨(some 22), none, (.call (.c (.fn 13 [])) [(.t 20), (.t 21)])⟩,
    ⟨(some 23), none, (.mv (.t 7))⟩,
    ⟨(some 24), none, (.call (.c (.fn 27 [])) [(.t 23)])⟩,
    ⟨(some 25), none, (.mv (.t 2))⟩,
    ⟨(some 26), none, (.call (.c (.fn 13 [])) [(.c (.v (.slice none 0 0))), (.t 25)])⟩,
    ⟨(some 27), none, (.append 1 1 (.t 24) (.t 26))⟩,
    ⟨(some 28), none, (.call (.c (.fn 12 [])) [(.t 22), (.t 27)])⟩,
    ⟨(some 29), none, (.mv (.t 28))⟩,
    ⟨(some 30), (some (29, true)), (.mv (.t 0))⟩,
    ⟨(some 31), (some (29, true)), (.mv (.t 7))⟩,
    ⟨(some 32), (some (29, true)), (.call (.c (.fn 16 [])) [(.t 30), (.t 31)])⟩,
    ⟨(some 33), (some (29, true)), (.mv (.t 7))⟩,
    ⟨(some 34), (some (29, true)), (.call (.c (.fn 27 [])) [(.t 33)])⟩,
    ⟨(some 35), (some (29, true)), (.mv (.t 7))⟩,
    ⟨(some 36), (some (29, true)), (.call (.c (.fn 16 [])) [(.c (.v (.slice none 0 0))), (.t 35)])⟩,
    ⟨(some 37), (some (29, true)), (.append 1 1 (.t 34) (.t 36))⟩,
    ⟨(some 38), (some (29, true)), (.call (.c (.fn 12 [])) [(.t 32), (.t 37)])⟩,
    ⟨(some 39), none, (.pick (.t 29) (.t 38) (.c (.v (.bool false))))⟩,
    ⟨(some 40), none, (.mv (.t 39))⟩,
    ⟨(some 41), (some (40, true)), (.mv (.t 0))⟩,
    ⟨(some 42), (some (40, true)), (.faddr 0 (.t 4))⟩,
    ⟨(some 43), (some (40, true)), (.load none (.t 42))⟩,
    ⟨(some 44), (some (40, true)), (.call (.c (.fn 18 [])) [(.t 41), (.t 43)])⟩,
    ⟨(some 45), (some (40, true)), (.mv (.t 7))⟩,
    ⟨(some 46), (some (40, true)), (.call (.c (.fn 27 [])) [(.t 45)])⟩,
    ⟨(some 47), (some (40, true)), (.faddr 0 (.t 4))⟩,
    ⟨(some 48), (some (40, true)), (.load none (.t 47))⟩,
    ⟨(some 49), (some (40, true)), (.call (.c (.fn 18 [])) [(.c (.v (.slice none 0 0))), (.t 48)])⟩,
    ⟨(some 50), (some (40, true)), (.append 1 1 (.t 46) (.t 49))⟩,
    ⟨(some 51), (some (40, true)), (.call (.c (.fn 12 [])) [(.t 44), (.t 50)])⟩,
    ⟨(some 52), none, (.pick (.t 40) (.t 51) (.c (.v (.bool false))))⟩,
    ⟨(some 53), none, (.mv (.t 52))⟩,
    ⟨(some 54), (some (53, true)), (.mv (.t 0))⟩,
    ⟨(some 55), (some (53, true)), (.faddr 1 (.t 4))⟩,
    ⟨(some 56), (some (53, true)), (.load none (.t 55))⟩,
    ⟨(some 57), (some (53, true)), (.call (.c (.fn 21 [])) [(.t 54), (.t 56)])⟩,
    ⟨(some 58), (some (53, true)), (.mv (.t 7))⟩,
    ⟨(some 59), (some (53, true)), (.call (.c (.fn 27 [])) [(.t 58)])⟩,
    ⟨(some 60), (some (53, true)), (.faddr 1 (.t 4))⟩,
    ⟨(some 61), (some (53, true)), (.load none (.t 60))⟩,
    ⟨(some 62), (some (53, true)), (.call (.c (.fn 21 [])) [(.c (.v (.slice none 0 0))), (.t 61)])⟩,
    ⟨(some 63), (some (53, true)), (.append 1 1 (.t 59) (.t 62))⟩,
    ⟨(some 64), (some (53, true)), (.call (.c (.fn 12 [])) [(.t 57), (.t 63)])⟩,
    ⟨(some 65), none, (.pick (.t 53) (.t 64) (.c (.v (.bool false))))⟩,
    ⟨(some 66), none, (.mv (.t 65))⟩,
    ⟨(some 67), (some (66, true)), (.mv (.t 0))⟩,
    ⟨(some 68), (some (66, true)), (.faddr 2 (.t 4))⟩,
    ⟨(some 69), (some (66, true)), (.load none (.t 68))⟩,
    ⟨(some 70), (some (66, true)), (.call (.c (.fn 23 [])) [(.t 67), (.t 69)])⟩,
    ⟨(some 71), (some (66, true)), (.mv (.t 7))⟩,
    ⟨(some 72), (some (66, true)), (.call (.c (.fn 27 [])) [(.t 71)])⟩,
    ⟨(some 73), (some (66, true)), (.faddr 2 (.t 4))⟩,
    ⟨(some 74), (some (66, true)), (.load none (.t 73))⟩,
    ⟨(some 75), (some (66, true)), (.call (.c (.fn 23 [])) [(.c (.v (.slice none 0 0))), (.t 74)])⟩,
    ⟨(some 76), (some (66, true)), (.append 1 1 (.t 72) (.t 75))⟩,
    ⟨(some 77), (some (66, true)), (.call (.c (.fn 12 [])) [(.t 70), (.t 76)])⟩,
    ⟨(some 78), none, (.pick (.t 66) (.t 77) (.c (.v (.bool false))))⟩,
    ⟨(some 79), none, (.mv (.t 78))⟩,
    ⟨(some 80), (some (79, true)), (.mv (.t 0))⟩,
    ⟨(some 81), (some (79, true)), (.faddr 3 (.t 4))⟩,
    ⟨(some 82), (some (79, true)), (.load none (.t 81))⟩,
    ⟨(some 83), (some (79, true)), (.call (.c (.fn 25 [])) [(.t 80), (.t 82)])⟩,
    ⟨(some 84), (some (79, true)), (.mv (.t 7))⟩,
    ⟨(some 85), (some (79, true)), (.call (.c (.fn 27 [])) [(.t 84)])⟩,
    ⟨(some 86), (some (79, true)), (.faddr 3 (.t 4))⟩,
    ⟨(some 87), (some (79, true)), (.load none (.t 86))⟩,
    ⟨(some 88), (some (79, true)), (.call (.c (.fn 25 [])) [(.c (.v (.slice none 0 0))), (.t 87)])⟩,
    ⟨(some 89), (some (79, true)), (.append 1 1 (.t 85) (.t 88))⟩,
    ⟨(some 90), (some (79, true)), (.call (.c (.fn 12 [])) [(.t 83), (.t 89)])⟩,
    ⟨(some 91), none, (.pick (.t 79) (.t 90) (.c (.v (.bool false))))⟩,
    ⟨(some 8), none, (.mv (.t 91))⟩] true) (.seq [6] (.region [⟨(some 92), none, (.mv (.t 8))⟩,
    ⟨(some 93), none, (.mv (.t 92))⟩,
    ⟨(some 94), (some (93, true)), (.mv (.t 0))⟩,
    ⟨(some 95), (some (93, true)), (.mv (.t 7))⟩,
    ⟨(some 96), (some (93, true)), (.call (.c (.fn 12 [])) [(.t 94), (.t 95)])⟩,
    ⟨(some 97), none, (.pick (.t 93) (.t 96) (.c (.v (.bool false))))⟩,
    ⟨(some 98), none, (.mv (.t 97))⟩,
    ⟨(some 99), (some (98, true)), (.call (.c (.fn 14 [])) [])⟩,
    ⟨(some 100), none, (.pick (.t 98) (.t 99) (.c (.v (.bool false))))⟩,
    ⟨(some 6), none, (.mv (.t 100))⟩] false) .ret)))))⟩
/- standby/standbylaw03.WireTears -/
def s7 : SFn := 
  ⟨.plain, 3, [(.tmp 6)], (.seq [1, 2, 3] (.region [⟨(some 3), none, (.box (.t 0))⟩,
    ⟨(some 6), none, (.mv (.c (.v (.bool false))))⟩] false) (.seq [1, 2, 3] (.seq [1, 2, 3, 25] (.region [⟨(some 23), none, (.load (some 4) (.t 3))⟩,
    ⟨(some 24), none, (.call (.c (.fn 20 [])) [(.t 23)])⟩,
    ⟨(some 25), none, (.un .not (.t 24))⟩] false) (.cond (.t 25) (.seq [6] (.region [⟨(some 26), none, (.call (.c (.fn 14 [])) [])⟩,
    ⟨(some 6), none, (.mv (.t 26))⟩] false) .ret) .skip)) (.seq [2, 3, 7, 8] (.region [⟨(some 27), none, (.mv (.t 1))⟩,
    ⟨(some 28), none, (.call (.c (.fn 13 [])) [(.c (.v (.slice none 0 0))), (.t 27)])⟩,
    ⟨(some 29), none, (.faddr 3 (.t 3))⟩,
    ⟨(some 30), none, (.load none (.t 29))⟩,
    ⟨(some 31), none, (.call (.c (.fn 25 [])) [(.c (.v (.slice none 0 0))), (.t 30)])⟩,
    ⟨(some 7), none, (.mv (.t 28))⟩,
    ⟨(some 8), none, (.mv (.t 31))⟩] true) (.seq [2, 7, 8, 9, 10] (.region [⟨(some 32), none, (.faddr 1 (.t 3))⟩,
    ⟨(some 33), none, (.load none (.t 32))⟩,
    ⟨(some 34), none, (.call (.c (.fn 21 [])) [(.c (.v (.slice none 0 0))), (.t 33)])⟩,
    ⟨(some 35), none, (.faddr 0 (.t 3))⟩,
    ⟨(some 36), none, (.load none (.t 35))⟩,
    ⟨(some 37), none, (.call (.c (.fn 18 [])) [(.c (.v (.slice none 0 0))), (.t 36)])⟩,
    ⟨(some 9), none, (.mv (.t 34))⟩,
    ⟨(some 10), none, (.mv (.t 37))⟩] true) (.seq [2, 7, 8, 9, 10] (.seq [2, 7, 8, 9, 10, 55] (.region [⟨(some 38), none, (.mv (.t 7))⟩,
    ⟨(some 39), none, (.len (.t 38))⟩,
    ⟨(some 40), none, (.bin .eql .none (.t 39) (.c (.v (.int .i64 0))))⟩,
    ⟨(some 41), none, (.mv (.t 40))⟩,
    ⟨(some 42), (some (41, false)), (.mv (.t 8))⟩,
    ⟨(some 43), (some (41, false)), (.len (.t 42))⟩,
    ⟨(some 44), (some (41, false)), (.bin .eql .none (.t 43) (.c (.v (.int .i64 0))))⟩,
    ⟨(some 45), none, (.pick (.t 41) (.c (.v (.bool true))) (.t 44))⟩,
    ⟨(some 46), none, (.mv (.t 45))⟩,
    ⟨(some 47), (some (46, false)), (.mv (.t 9))⟩,
    ⟨(some 48), (some (46, false)), (.len (.t 47))⟩,
    ⟨(some 49), (some (46, false)), (.bin .eql .none (.t 48) (.c (.v (.int .i64 0))))⟩,
    ⟨(some 50), none, (.pick (.t 46) (.c (.v (.bool true))) (.t 49))⟩,
    ⟨(some 51), none, (.mv (.t 50))⟩,
    ⟨(some 52), (some (51, false)), (.mv (.t 10))⟩,
    ⟨(some 53), (some (51, false)), (.len (.t 52))⟩,
    ⟨(some 54), (some (51, false)), (.bin .eql .none (.t 53) (.c (.v (.int .i64 0))))⟩,
    ⟨(some 55), none, (.pick (.t 51) (.c (.v (.bool true))) (.t 54))⟩] false) (.cond (.t 55) (.seq [6] (.region [⟨(some 6), none, (.mv (.c (.v (.bool false))))⟩] false) .ret) .skip)) (.seq [2, 8, 9, 10, 13] (.region [⟨(some 57), none, (.mv (.t 7))⟩,
    ⟨(some 58), none, (.mv (.t 2))⟩,
    ⟨(some 59), none, (.conv .i64 (.t 58))⟩,
    ⟨(some 60), none, (.mv (.t 7))⟩,
    ⟨(some 61), none, (.len (.t 60))⟩,
    ⟨(some 62), none, (.bin .rem .none (.t 59) (.t 61))⟩,
    ⟨(some 63), none, (.slice 1 (.t 57) none (some (.t 62)))⟩,
    ⟨(some 64), none, (.call (.c (.fn 28 [])) [(.t 63)])⟩,
    ⟨(some 56), none, (.mv (.t 64))⟩,
    ⟨(some 65), none, (.extract (.t 56) 0)⟩,
    ⟨(some 66), none, (.extract (.t 56) 1)⟩,
    ⟨(some 67), none, (.extract (.t 56) 2)⟩,
    ⟨(some 11), none, (.mv (.t 65))⟩,
    ⟨(some 12), none, (.mv (.t 66))⟩,
    ⟨(some 13), none, (.mv (.t 67))⟩] false) (.seq [2, 9, 10, 13, 16] (.region [⟨(some 69), none, (.mv (.t 8))⟩,
    ⟨(some 70), none, (.mv (.t 2))⟩,
    ⟨(some 71), none, (.conv .i64 (.t 70))⟩,
    ⟨(some 72), none, (.mv (.t 8))⟩,
    ⟨(some 73), none, (.len (.t 72))⟩,
    ⟨(some 74), none, (.bin .rem .none (.t 71) (.t 73))⟩,
    ⟨(some 75), none, (.slice 1 (.t 69) none (some (.t 74)))⟩,
    ⟨(some 76), none, (.call (.c (.fn 29 [])) [(.t 75)])⟩,
    ⟨(some 68), none, (.mv (.t 76))⟩,
    ⟨(some 77), none, (.extract (.t 68) 0)⟩,
    ⟨(some 78), none, (.extract (.t 68) 1)⟩,
    ⟨(some 79), none, (.extract (.t 68) 2)⟩,
    ⟨(some 14), none, (.mv (.t 77))⟩,
    ⟨(some 15), none, (.mv (.t 78))⟩,
    ⟨(some 16), none, (.mv (.t 79))⟩] false) (.seq [2, 10, 13, 16, 19] (.region [⟨(some 81), none, (.mv (.t 9))⟩,
    ⟨(some 82), none, (.mv (.t 2))⟩,
    ⟨(some 83), none, (.conv .i64 (.t 82))⟩,
    ⟨(some 84), none, (.mv (.t 9))⟩,
    ⟨(some 85), none, (.len (.t 84))⟩,
    ⟨(some 86), none, (.bin .rem .none (.t 83) (.t 85))⟩,
    ⟨(some 87), none, (.slice 1 (.t 81) none (some (.t 86)))⟩,
    ⟨(some 88), none, (.call (.c (.fn 30 [])) [(.t 87)])⟩,
    ⟨(some 80), none, (.mv (.t 88))⟩,
    ⟨(some 89), none, (.extract (.t 80) 0)⟩,
    ⟨(some 90), none, (.extract (.t 80) 1)⟩,
    ⟨(some 91), none, (.extract (.t 80) 2)⟩,
    ⟨(some 17), none, (.mv (.t 89))⟩,
    ⟨(some 18), none, (.mv (.t 90))⟩,
    ⟨(some 19), none, (.mv (.t 91))⟩] false) (.seq [13, 16, 19, 22] (.region [⟨(some 93), none, (.mv (.t 10))⟩,
    ⟨(some 94), none, (.mv (.t 2))⟩,
    ⟨(some 95), none, (.conv .i64 (.t 94))⟩,
    ⟨(some 96), none, (.mv (.t 10))⟩,
    ⟨(some 97), none, (.len (.t 96))⟩,
    ⟨(some 98), none, (.bin .rem .none (.t 95) (.t 97))⟩,
    ⟨(some 99), none, (.slice 1 (.t 93) none (some (.t 98)))⟩,
    ⟨(some 100), none, (.call (.c (.fn 31 [])) [(.t 99)])⟩,
    ⟨(some 92), none, (.mv (.t 100))⟩,
    ⟨(some 101), none, (.extract (.t 92) 0)⟩,
    ⟨(some 102), none, (.extract (.t 92) 1)⟩,
    ⟨(some 103), none, (.extract (.t 92) 2)⟩,
    ⟨(some 20), none, (.mv (.t 101))⟩,
    ⟨(some 21), none, (.mv (.t 102))⟩,
    ⟨(some 22), none, (.mv (.t 103))⟩] false) (.seq [6] (.region [⟨(some 104), none, (.mv (.t 13))⟩,
    ⟨(some 105), none, (.bin .eql .none (.t 104) (.c (.v (.int .i64 10))))⟩,
    ⟨(some 106), none, (.mv (.t 105))⟩,
    ⟨(some 107), (some (106, true)), (.mv (.t 16))⟩,
    ⟨(some 108), (some (106, true)), (.bin .eql .none (.t 107) (.c (.v (.int .i64 10))))⟩,
    ⟨(some 109), none, (.pick (.t 106) (.t 108) (.c (.v (.bool false))))⟩,
    ⟨(some 110), none, (.mv (.t 109))⟩,
    ⟨(some 111), (some (110, true)), (.mv (.t 19))⟩,
    ⟨(some 112), (some (110, true)), (.bin .eql .none (.t 111) (.c (.v (.int .i64 10))))⟩,
    ⟨(some 113), none, (.pick (.t 110) (.t 112) (.c (.v (.bool false))))⟩,
    ⟨(some 114), none, (.mv (.t 113))⟩,
    ⟨(some 115), (some (114, true)), (.mv (.t 22))⟩,
    ⟨(some 116), (some (114, true)), (.bin .eql .none (.t 115) (.c (.v (.int .i64 10))))⟩,
    ⟨(some 117), none, (.pick (.t 114) (.t 116) (.c (.v (.bool false))))⟩,
    ⟨(some 118), none, (.mv (.t 117))⟩,
    ⟨(some 119), (some (118, true)), (.call (.c (.fn 14 [])) [])⟩,
    ⟨(some 120), none, (.pick (.t 118) (.t 119) (.c (.v (.bool false))))⟩,
    ⟨(some 6), none, (.mv (.t 120))⟩] false) .ret))))))))))⟩
/- standby/standbylaw03.WireOnce -/
def s8 : SFn := 
  ⟨.plain, 1, [(.tmp 2)], (.seq [0] (.region [⟨(some 2), none, (.mv (.c (.v (.bool false))))⟩] false) (.seq [0] (.seq [0, 23] (.region [⟨(some 21), none, (.mv (.t 0))⟩,
    ⟨(some 22), none, (.len (.t 21))⟩,
    ⟨(some 23), none, (.bin .gtr .none (.t 22) (.c (.v (.int .i64 1000))))⟩] false) (.cond (.t 23) (.seq [2] (.region [⟨(some 24), none, (.call (.c (.fn 14 [])) [])⟩,
    ⟨(some 2), none, (.mv (.t 24))⟩] false) .ret) .skip)) (.seq [0] (.seq [0, 3, 4, 5] (.region [⟨(some 26), none, (.mv (.t 0))⟩,
    ⟨(some 27), none, (.call (.c (.fn 28 [])) [(.t 26)])⟩,
    ⟨(some 25), none, (.mv (.t 27))⟩,
    ⟨(some 28), none, (.extract (.t 25) 0)⟩,
    ⟨(some 29), none, (.extract (.t 25) 1)⟩,
    ⟨(some 30), none, (.extract (.t 25) 2)⟩,
    ⟨(some 3), none, (.mv (.t 28))⟩,
    ⟨(some 4), none, (.mv (.t 29))⟩,
    ⟨(some 5), none, (.mv (.t 30))⟩] false) (.seq [0, 40] (.region [⟨(some 31), none, (.mv (.t 5))⟩,
    ⟨(some 32), none, (.bin .eql .none (.t 31) (.c (.v (.int .i64 0))))⟩,
    ⟨(some 33), none, (.mv (.t 32))⟩,
    ⟨(some 34), (some (33, true)), (.mv (.t 0))⟩,
    ⟨(some 35), (some (33, true)), (.mv (.t 3))⟩,
    ⟨(some 36), (some (33, true)), (.call (.c (.fn 13 [])) [(.c (.v (.slice none 0 0))), (.t 35)])⟩,
    ⟨(some 37), (some (33, true)), (.mv (.t 4))⟩,
    ⟨(some 38), (some (33, true)), (.call (.c (.fn 32 [])) [(.t 34), (.t 36), (.t 37)])⟩,
    ⟨(some 39), (some (33, true)), (.un .not (.t 38))⟩,
    ⟨(some 40), none, (.pick (.t 33) (.t 39) (.c (.v (.bool false))))⟩] false) (.cond (.t 40) (.seq [2] (.region [⟨(some 2), none, (.mv (.c (.v (.bool false))))⟩] false) .ret) .skip))) (.seq [0] (.seq [0, 6, 7, 8] (.region [⟨(some 42), none, (.mv (.t 0))⟩,
    ⟨(some 43), none, (.call (.c (.fn 33 [])) [(.t 42)])⟩,
    ⟨(some 41), none, (.mv (.t 43))⟩,
    ⟨(some 44), none, (.extract (.t 41) 0)⟩,
    ⟨(some 45), none, (.extract (.t 41) 1)⟩,
    ⟨(some 46), none, (.extract (.t 41) 2)⟩,
    ⟨(some 6), none, (.mv (.t 44))⟩,
    ⟨(some 7), none, (.mv (.t 45))⟩,
    ⟨(some 8), none, (.mv (.t 46))⟩] false) (.seq [0, 56] (.region [⟨(some 47), none, (.mv (.t 8))⟩,
    ⟨(some 48), none, (.bin .eql .none (.t 47) (.c (.v (.int .i64 0))))⟩,
    ⟨(some 49), none, (.mv (.t 48))⟩,
    ⟨(some 50), (some (49, true)), (.mv (.t 0))⟩,
    ⟨(some 51), (some (49, true)), (.mv (.t 6))⟩,
    ⟨(some 52), (some (49, true)), (.call (.c (.fn 16 [])) [(.c (.v (.slice none 0 0))), (.t 51)])⟩,
    ⟨(some 53), (some (49, true)), (.mv (.t 7))⟩,
    ⟨(some 54), (some (49, true)), (.call (.c (.fn 32 [])) [(.t 50), (.t 52), (.t 53)])⟩,
    ⟨(some 55), (some (49, true)), (.un .not (.t 54))⟩,
    ⟨(some 56), none, (.pick (.t 49) (.t 55) (.c (.v (.bool false))))⟩] false) (.cond (.t 56) (.seq [2] (.region [⟨(some 2), none, (.mv (.c (.v (.bool false))))⟩] false) .ret) .skip))) (.seq [0] (.seq [0, 9, 10, 11] (.region [⟨(some 58), none, (.mv (.t 0))⟩,
    ⟨(some 59), none, (.call (.c (.fn 31 [])) [(.t 58)])⟩,
    ⟨(some 57), none, (.mv (.t 59))⟩,
    ⟨(some 60), none, (.extract (.t 57) 0)⟩,
    ⟨(some 61), none, (.extract (.t 57) 1)⟩,
    ⟨(some 62), none, (.extract (.t 57) 2)⟩,
    ⟨(some 9), none, (.mv (.t 60))⟩,
    ⟨(some 10), none, (.mv (.t 61))⟩,
    ⟨(some 11), none, (.mv (.t 62))⟩] false) (.seq [0, 72] (.region [⟨(some 63), none, (.mv (.t 11))⟩,
    ⟨(some 64), none, (.bin .eql .none (.t 63) (.c (.v (.int .i64 0))))⟩,
    ⟨(some 65), none, (.mv (.t 64))⟩,
    ⟨(some 66), (some (65, true)), (.mv (.t 0))⟩,
    ⟨(some 67), (some (65, true)), (.mv (.t 9))⟩,
    ⟨(some 68), (some (65, true)), (.call (.c (.fn 18 [])) [(.c (.v (.slice none 0 0))), (.t 67)])⟩,
    ⟨(some 69), (some (65, true)), (.mv (.t 10))⟩,
    ⟨(some 70), (some (65, true)), (.call (.c (.fn 32 [])) [(.t 66), (.t 68), (.t 69)])⟩,
    ⟨(some 71), (some (65, true)), (.un .not (.t 70))⟩,
    ⟨(some 72), none, (.pick (.t 65) (.t 71) (.c (.v (.bool false))))⟩] false) (.cond (.t 72) (.seq [2] (.region [⟨(some 2), none, (.mv (.c (.v (.bool false))))⟩] false) .ret) .skip))) (.seq [0] (.seq [0, 12, 13, 14] (.region [⟨(some 74), none, (.mv (.t 0))⟩,
    ⟨(some 75), none, (.call (.c (.fn 30 [])) [(.t 74)])⟩,
    ⟨(some 73), none, (.mv (.t 75))⟩,
    ⟨(some 76), none, (.extract (.t 73) 0)⟩,
    ⟨(some 77), none, (.extract (.t 73) 1)⟩,
    ⟨(some 78), none, (.extract (.t 73) 2)⟩,
    ⟨(some 12), none, (.mv (.t 76))⟩,
    ⟨(some 13), none, (.mv (.t 77))⟩,
    ⟨(some 14), none, (.mv (.t 78))⟩] false) (.seq [0, 88] (.region [⟨(some 79), none, (.mv (.t 14))⟩,
    ⟨(some 80), none, (.bin .eql .none (.t 79) (.c (.v (.int .i64 0))))⟩,
    ⟨(some 81), none, (.mv (.t 80))⟩,
    ⟨(some 82), (some (81, true)), (.mv (.t 0))⟩,
    ⟨(some 83), (some (81, true)), (.mv (.t 12))⟩,
    ⟨(some 84), (some (81, true)), (.call (.c (.fn 21 [])) [(.c (.v (.slice none 0 0))), (.t 83)])⟩,
    ⟨(some 85), (some (81, true)), (.mv (.t 13))⟩,
    ⟨(some 86), (some (81, true)), (.call (.c (.fn 32 [])) [(.t 82), (.t 84), (.t 85)])⟩,
    ⟨(some 87), (some (81, true)), (.un .not (.t 86))⟩,
    ⟨(some 88), none, (.pick (.t 81) (.t 87) (.c (.v (.bool false))))⟩] false) (.cond (.t 88) (.seq [2] (.region [⟨(some 2), none, (.mv (.c (.v (.bool false))))⟩] false) .ret) .skip))) (.seq [0] (.seq [0, 15, 16, 17] (.region [⟨(some 90), none, (.mv (.t 0))⟩,
    ⟨(some 91), none, (.call (.c (.fn 34 [])) [(.t 90)])⟩,
    ⟨(some 89), none, (.mv (.t 91))⟩,
    ⟨(some 92), none, (.extract (.t 89) 0)⟩,
    ⟨(some 93), none, (.extract (.t 89) 1)⟩,
    ⟨(some 94), none, (.extract (.t 89) 2)⟩,
    ⟨(some 15), none, (.mv (.t 92))⟩,
    ⟨(some 16), none, (.mv (.t 93))⟩,
    ⟨(some 17), none, (.mv (.t 94))⟩] false) (.seq [0, 104] (.region [⟨(some 95), none, (.mv (.t 17))⟩,
    ⟨(some 96), none, (.bin .eql .none (.t 95) (.c (.v (.int .i64 0))))⟩,
    ⟨(some 97), none, (.mv (.t 96))⟩,
    ⟨(some 98), (some (97, true)), (.mv (.t 0))⟩,
    ⟨(some 99), (some (97, true)), (.mv (.t 15))⟩,
    ⟨(some 100), (some (97, true)), (.call (.c (.fn 23 [])) [(.c (.v (.slice none 0 0))), (.t 99)])⟩,
    ⟨(some 101), (some (97, true)), (.mv (.t 16))⟩,
    ⟨(some 102), (some (97, true)), (.call (.c (.fn 32 [])) [(.t 98), (.t 100), (.t 101)])⟩,
    ⟨(some 103), (some (97, true)), (.un .not (.t 102))⟩,
    ⟨(some 104), none, (.pick (.t 97) (.t 103) (.c (.v (.bool false))))⟩] false) (.cond (.t 104) (.seq [2] (.region [⟨(some 2), none, (.mv (.c (.v (.bool false))))⟩] false) .ret) .skip))) (.seq [] (.seq [0, 18, 19, 20] (.region [⟨(some 106), none, (.mv (.t 0))⟩,
    ⟨(some 107), none, (.call (.c (.fn 29 [])) [(.t 106)])⟩,
    ⟨(some 105), none, (.mv (.t 107))⟩,
    ⟨(some 108), none, (.extract (.t 105) 0)⟩,
    ⟨(some 109), none, (.extract (.t 105) 1)⟩,
    ⟨(some 110), none, (.extract (.t 105) 2)⟩,
    ⟨(some 18), none, (.mv (.t 108))⟩,
    ⟨(some 19), none, (.mv (.t 109))⟩,
    ⟨(some 20), none, (.mv (.t 110))⟩] false) (.seq [120] (.region [⟨(some 111), none, (.mv (.t 20))⟩,
    ⟨(some 112), none, (.bin .eql .none (.t 111) (.c (.v (.int .i64 0))))⟩,
    ⟨(some 113), none, (.mv (.t 112))⟩,
    ⟨(some 114), (some (113, true)), (.mv (.t 0))⟩,
    ⟨(some 115), (some (113, true)), (.mv (.t 18))⟩,
    ⟨(some 116), (some (113, true)), (.call (.c (.fn 25 [])) [(.c (.v (.slice none 0 0))), (.t 115)])⟩,
    ⟨(some 117), (some (113, true)), (.mv (.t 19))⟩,
    ⟨(some 118), (some (113, true)), (.call (.c (.fn 32 [])) [(.t 114), (.t 116), (.t 117)])⟩,
    ⟨(some 119), (some (113, true)), (.un .not (.t 118))⟩,
    ⟨(some 120), none, (.pick (.t 113) (.t 119) (.c (.v (.bool false))))⟩] false) (.cond (.t 120) (.seq [2] (.region [⟨(some 2), none, (.mv (.c (.v (.bool false))))⟩] false) .ret) .skip))) (.seq [2] (.region [⟨(some 121), none, (.call (.c (.fn 14 [])) [])⟩,
    ⟨(some 2), none, (.mv (.t 121))⟩] false) .ret)))))))))⟩
/- standby/standbylaw03.WireReads -/
def s9 : SFn := 
  ⟨.plain, 1, [(.tmp 2)], (.seq [0] (.region [⟨(some 2), none, (.mv (.c (.v (.bool false))))⟩] false) (.seq [0] (.seq [0, 21] (.region [⟨(some 19), none, (.mv (.t 0))⟩,
    ⟨(some 20), none, (.len (.t 19))⟩,
    ⟨(some 21), none, (.bin .gtr .none (.t 20) (.c (.v (.int .i64 1000))))⟩] false) (.cond (.t 21) (.seq [2] (.region [⟨(some 22), none, (.call (.c (.fn 14 [])) [])⟩,
    ⟨(some 2), none, (.mv (.t 22))⟩] false) .ret) .skip)) (.seq [0, 3, 4, 5] (.region [⟨(some 24), none, (.mv (.t 0))⟩,
    ⟨(some 25), none, (.call (.c (.fn 28 [])) [(.t 24)])⟩,
    ⟨(some 23), none, (.mv (.t 25))⟩,
    ⟨(some 26), none, (.extract (.t 23) 0)⟩,
    ⟨(some 27), none, (.extract (.t 23) 1)⟩,
    ⟨(some 28), none, (.extract (.t 23) 2)⟩,
    ⟨(some 3), none, (.mv (.t 26))⟩,
    ⟨(some 4), none, (.mv (.t 27))⟩,
    ⟨(some 5), none, (.mv (.t 28))⟩] false) (.seq [0, 3, 4, 5, 6, 7, 8] (.region [⟨(some 30), none, (.mv (.t 0))⟩,
    ⟨(some 31), none, (.call (.c (.fn 35 [])) [(.t 30)])⟩,
    ⟨(some 29), none, (.mv (.t 31))⟩,
    ⟨(some 32), none, (.extract (.t 29) 0)⟩,
    ⟨(some 33), none, (.extract (.t 29) 1)⟩,
    ⟨(some 34), none, (.extract (.t 29) 2)⟩,
    ⟨(some 6), none, (.mv (.t 32))⟩,
    ⟨(some 7), none, (.mv (.t 33))⟩,
    ⟨(some 8), none, (.mv (.t 34))⟩] false) (.seq [0] (.seq [0, 48] (.region [⟨(some 35), none, (.mv (.t 3))⟩,
    ⟨(some 36), none, (.mv (.t 6))⟩,
    ⟨(some 37), none, (.bin .neq .none (.t 35) (.t 36))⟩,
    ⟨(some 38), none, (.mv (.t 37))⟩,
    ⟨(some 39), (some (38, false)), (.mv (.t 4))⟩,
    ⟨(some 40), (some (38, false)), (.mv (.t 7))⟩,
    ⟨(some 41), (some (38, false)), (.call (.c (.fn 12 [])) [(.t 39), (.t 40)])⟩,
    ⟨(some 42), (some (38, false)), (.un .not (.t 41))⟩,
    ⟨(some 43), none, (.pick (.t 38) (.c (.v (.bool true))) (.t 42))⟩,
    ⟨(some 44), none, (.mv (.t 43))⟩,
    ⟨(some 45), (some (44, false)), (.mv (.t 5))⟩,
    ⟨(some 46), (some (44, false)), (.mv (.t 8))⟩,
    ⟨(some 47), (some (44, false)), (.bin .neq .none (.t 45) (.t 46))⟩,
    ⟨(some 48), none, (.pick (.t 44) (.c (.v (.bool true))) (.t 47))⟩] false) (.cond (.t 48) (.seq [2] (.region [⟨(some 2), none, (.mv (.c (.v (.bool false))))⟩] false) .ret) .skip)) (.seq [0, 4, 5, 9] (.region [⟨(some 50), none, (.mv (.t 0))⟩,
    ⟨(some 51), none, (.call (.c (.fn 33 [])) [(.t 50)])⟩,
    ⟨(some 49), none, (.mv (.t 51))⟩,
    ⟨(some 52), none, (.extract (.t 49) 0)⟩,
    ⟨(some 53), none, (.extract (.t 49) 1)⟩,
    ⟨(some 54), none, (.extract (.t 49) 2)⟩,
    ⟨(some 9), none, (.mv (.t 52))⟩,
    ⟨(some 4), none, (.mv (.t 53))⟩,
    ⟨(some 5), none, (.mv (.t 54))⟩] false) (.seq [0, 4, 5, 7, 8, 9, 10] (.region [⟨(some 56), none, (.mv (.t 0))⟩,
    ⟨(some 57), none, (.call (.c (.fn 36 [])) [(.t 56)])⟩,
    ⟨(some 55), none, (.mv (.t 57))⟩,
    ⟨(some 58), none, (.extract (.t 55) 0)⟩,
    ⟨(some 59), none, (.extract (.t 55) 1)⟩,
    ⟨(some 60), none, (.extract (.t 55) 2)⟩,
    ⟨(some 10), none, (.mv (.t 58))⟩,
    ⟨(some 7), none, (.mv (.t 59))⟩,
    ⟨(some 8), none, (.mv (.t 60))⟩] false) (.seq [0] (.seq [0, 75] (.region [⟨(some 61), none, (.mv (.t 9))⟩,
    ⟨(some 62), none, (.mv (.t 10))⟩,
    ⟨(some 63), none, (.call (.c (.fn 12 [])) [(.t 61), (.t 62)])⟩,
    ⟨(some 64), none, (.un .not (.t 63))⟩,
    ⟨(some 65), none, (.mv (.t 64))⟩,
    ⟨(some 66), (some (65, false)), (.mv (.t 4))⟩,
    ⟨(some 67), (some (65, false)), (.mv (.t 7))⟩,
    ⟨(some 68), (some (65, false)), (.call (.c (.fn 12 [])) [(.t 66), (.t 67)])⟩,
    ⟨(some 69), (some (65, false)), (.un .not (.t 68))⟩,
    ⟨(some 70), none, (.pick (.t 65) (.c (.v (.bool true))) (.t 69))⟩,
    ⟨(some 71), none, (.mv (.t 70))⟩,
    ⟨(some 72), (some (71, false)), (.mv (.t 5))⟩,
    ⟨(some 73), (some (71, false)), (.mv (.t 8))⟩,
    ⟨(some 74), (some (71, false)), (.bin .neq .none (.t 72) (.t 73))⟩,
    ⟨(some 75), none, (.pick (.t 71) (.c (.v (.bool true))) (.t 74))⟩] false) (.cond (.t 75) (.seq [2] (.region [⟨(some 2), none, (.mv (.c (.v (.bool false))))⟩] false) .ret) .skip)) (.seq [0, 4, 5, 11] (.region [⟨(some 77), none, (.mv (.t 0))⟩,
    ⟨(some 78), none, (.call (.c (.fn 31 [])) [(.t 77)])⟩,
    ⟨(some 76), none, (.mv (.t 78))⟩,
    ⟨(some 79), none, (.extract (.t 76) 0)⟩,
    ⟨(some 80), none, (.extract (.t 76) 1)⟩,
    ⟨(some 81), none, (.extract (.t 76) 2)⟩,
    ⟨(some 11), none, (.mv (.t 79))⟩,
    ⟨(some 4), none, (.mv (.t 80))⟩,
    ⟨(some 5), none, (.mv (.t 81))⟩] false) (.seq [0, 4, 5, 7, 8, 11, 12] (.region [⟨(some 83), none, (.mv (.t 0))⟩,
    ⟨(some 84), none, (.call (.c (.fn 37 [])) [(.t 83)])⟩,
    ⟨(some 82), none, (.mv (.t 84))⟩,
    ⟨(some 85), none, (.extract (.t 82) 0)⟩,
    ⟨(some 86), none, (.extract (.t 82) 1)⟩,
    ⟨(some 87), none, (.extract (.t 82) 2)⟩,
    ⟨(some 12), none, (.mv (.t 85))⟩,
    ⟨(some 7), none, (.mv (.t 86))⟩,
    ⟨(some 8), none, (.mv (.t 87))⟩] false) (.seq [0] (.seq [0, 102] (.region [⟨(some 88), none, (.mv (.t 11))⟩,
    ⟨(some 89), none, (.mv (.t 12))⟩,
    ⟨(some 90), none, (.call (.c (.fn 38 [])) [(.t 88), (.t 89)])⟩,
    ⟨(some 91), none, (.un .not (.t 90))⟩,
    ⟨(some 92), none, (.mv (.t 91))⟩,
    ⟨(some 93), (some (92, false)), (.mv (.t 4))⟩,
    ⟨(some 94), (some (92, false)), (.mv (.t 7))⟩,
    ⟨(some 95), (some (92, false)), (.call (.c (.fn 12 [])) [(.t 93), (.t 94)])⟩,
    ⟨(some 96), (some (92, false)), (.un .not (.t 95))⟩,
    ⟨(some 97), none, (.pick (.t 92) (.c (.v (.bool true))) (.t 96))⟩,
    ⟨(some 98), none, (.mv (.t 97))⟩,
    ⟨(some 99), (some (98, false)), (.mv (.t 5))⟩,
    ⟨(some 100), (some (98, false)), (.mv (.t 8))⟩,
    ⟨(some 101), (some (98, false)), (.bin .neq .none (.t 99) (.t 100))⟩,
    ⟨(some 102), none, (.pick (.t 98) (.c (.v (.bool true))) (.t 101))⟩] false) (.cond (.t 102) (.seq [2] (.region [⟨(some 2), none, (.mv (.c (.v (.bool false))))⟩] false) .ret) .skip)) (.seq [0, 4, 5, 13] (.region [⟨(some 104), none, (.mv (.t 0))⟩,
    ⟨(some 105), none, (.call (.c (.fn 30 [])) [(.t 104)])⟩,
    ⟨(some 103), none, (.mv (.t 105))⟩,
    ⟨(some 106), none, (.extract (.t 103) 0)⟩,
    ⟨(some 107), none, (.extract (.t 103) 1)⟩,
    ⟨(some 108), none, (.extract (.t 103) 2)⟩,
    ⟨(some 13), none, (.mv (.t 106))⟩,
    ⟨(some 4), none, (.mv (.t 107))⟩,
    ⟨(some 5), none, (.mv (.t 108))⟩] false) (.seq [0, 4, 5, 7, 8, 13, 14] (.region [⟨(some 110), none, (.mv (.t 0))⟩,
    ⟨(some 111), none, (.call (.c (.fn 39 [])) [(.t 110)])⟩,
    ⟨(some 109), none, (.mv (.t 111))⟩,
    ⟨(some 112), none, (.extract (.t 109) 0)⟩,
    ⟨(some 113), none, (.extract (.t 109) 1)⟩,
    ⟨(some 114), none, (.extract (.t 109) 2)⟩,
    ⟨(some 14), none, (.mv (.t 112))⟩,
    ⟨(some 7), none, (.mv (.t 113))⟩,
    ⟨(some 8), none, (.mv (.t 114))⟩] false) (.seq [0] (.seq [0, 129] (.region [⟨(some 115), none, (.mv (.t 13))⟩,
    ⟨(some 116), none, (.mv (.t 14))⟩,
    ⟨(some 117), none, (.call (.c (.fn 40 [])) [(.t 115), (.t 116)])⟩,
    ⟨(some 118), none, (.un .not (.t 117))⟩,
    ⟨(some 119), none, (.mv (.t 118))⟩,
    ⟨(some 120), (some (119, false)), (.mv (.t 4))⟩,
    ⟨(some 121), (some (119, false)), (.mv (.t 7))⟩,
    ⟨(some 122), (some (119, false)), (.call (.c (.fn 12 [])) [(.t 120), (.t 121)])⟩,
    ⟨(some 123), (some (119, false)), (.un .not (.t 122))⟩,
    ⟨(some 124), none, (.pick (.t 119) (.c (.v (.bool true))) (.t 123))⟩,
    ⟨(some 125), none, (.mv (.t 124))⟩,
    ⟨(some 126), (some (125, false)), (.mv (.t 5))⟩,
    ⟨(some 127), (some (125, false)), (.mv (.t 8))⟩,
    ⟨(some 128), (some (125, false)), (.bin .neq .none (.t 126) (.t 127))⟩,
    ⟨(some 129), none, (.pick (.t 125) (.c (.v (.bool true))) (.t 128))⟩] false) (.cond (.t 129) (.seq [2] (.region [⟨(some 2), none, (.mv (.c (.v (.bool false))))⟩] false) .ret) .skip)) (.seq [0, 4, 5, 15] (.region [⟨(some 131), none, (.mv (.t 0))⟩,
    ⟨(some 132), none, (.call (.c (.fn 34 [])) [(.t 131)])⟩,
    ⟨(some 130), none, (.mv (.t 132))⟩,
    ⟨(some 133), none, (.extract (.t 130) 0)⟩,
    ⟨(some 134), none, (.extract (.t 130) 1)⟩,
    ⟨(some 135), none, (.extract (.t 130) 2)⟩,
    ⟨(some 15), none, (.mv (.t 133))⟩,
    ⟨(some 4), none, (.mv (.t 134))⟩,
    ⟨(some 5), none, (.mv (.t 135))⟩] false) (.seq [0, 4, 5, 7, 8, 15, 16] (.region [⟨(some 137), none, (.mv (.t 0))⟩,
    ⟨(some 138), none, (.call (.c (.fn 41 [])) [(.t 137)])⟩,
    ⟨(some 136), none, (.mv (.t 138))⟩,
    ⟨(some 139), none, (.extract (.t 136) 0)⟩,
    ⟨(some 140), none, (.extract (.t 136) 1)⟩,
    ⟨(some 141), none, (.extract (.t 136) 2)⟩,
    ⟨(some 16), none, (.mv (.t 139))⟩,
    ⟨(some 7), none, (.mv (.t 140))⟩,
    ⟨(some 8), none, (.mv (.t 141))⟩] false) (.seq [0] (.seq [0, 156] (.region [⟨(some 142), none, (.mv (.t 15))⟩,
    ⟨(some 143), none, (.mv (.t 16))⟩,
    ⟨(some 144), none, (.call (.c (.fn 42 [])) [(.t 142), (.t 143)])⟩,
    ⟨(some 145), none, (.un .not (.t 144))⟩,
    ⟨(some 146), none, (.mv (.t 145))⟩,
    ⟨(some 147), (some (146, false)), (.mv (.t 4))⟩,
    ⟨(some 148), (some (146, false)), (.mv (.t 7))⟩,
    ⟨(some 149), (some (146, false)), (.call (.c (.fn 12 [])) [(.t 147), (.t 148)])⟩,
    ⟨(some 150), (some (146, false)), (.un .not (.t 149))⟩,
    ⟨(some 151), none, (.pick (.t 146) (.c (.v (.bool true))) (.t 150))⟩,
    ⟨(some 152), none, (.mv (.t 151))⟩,
    ⟨(some 153), (some (152, false)), (.mv (.t 5))⟩,
    ⟨(some 154), (some (152, false)), (.mv (.t 8))⟩,
    ⟨(some 155), (some (152, false)), (.bin .neq .none (.t 153) (.t 154))⟩,
    ⟨(some 156), none, (.pick (.t 152) (.c (.v (.bool true))) (.t 155))⟩] false) (.cond (.t 156) (.seq [2] (.region [⟨(some 2), none, (.mv (.c (.v (.bool false))))⟩] false) .ret) .skip)) (.seq [0, 4, 5, 17] (.region [⟨(some 158), none, (.mv (.t 0))⟩,
    ⟨(some 159), none, (.call (.c (.fn 29 [])) [(.t 158)])⟩,
    ⟨(some 157), none, (.mv (.t 159))⟩,
    ⟨(some 160), none, (.extract (.t 157) 0)⟩,
    ⟨(some 161), none, (.extract (.t 157) 1)⟩,
    ⟨(some 162), none, (.extract (.t 157) 2)⟩,
    ⟨(some 17), none, (.mv (.t 160))⟩,
    ⟨(some 4), none, (.mv (.t 161))⟩,
    ⟨(some 5), none, (.mv (.t 162))⟩] false) (.seq [4, 5, 7, 8, 17, 18] (.region [⟨(some 164), none, (.mv (.t 0))⟩,
    ⟨(some 165), none, (.call (.c (.fn 43 [])) [(.t 164)])⟩,
    ⟨(some 163), none, (.mv (.t 165))⟩,
    ⟨(some 166), none, (.extract (.t 163) 0)⟩,
    ⟨(some 167), none, (.extract (.t 163) 1)⟩,
    ⟨(some 168), none, (.extract (.t 163) 2)⟩,
    ⟨(some 18), none, (.mv (.t 166))⟩,
    ⟨(some 7), none, (.mv (.t 167))⟩,
    ⟨(some 8), none, (.mv (.t 168))⟩] false) (.seq [2] (.region [⟨(some 169), none, (.mv (.t 17))⟩,
    ⟨(some 170), none, (.mv (.t 18))⟩,
    ⟨(some 171), none, (.call (.c (.fn 44 [])) [(.t 169), (.t 170)])⟩,
    ⟨(some 172), none, (.mv (.t 171))⟩,
    ⟨(some 173), (some (172, true)), (.mv (.t 4))⟩,
    ⟨(some 174), (some (172, true)), (.mv (.t 7))⟩,
    ⟨(some 175), (some (172, true)), (.call (.c (.fn 12 [])) [(.t 173), (.t 174)])⟩,
    ⟨(some 176), none, (.pick (.t 172) (.t 175) (.c (.v (.bool false))))⟩,
    ⟨(some 177), none, (.mv (.t 176))⟩,
    ⟨(some 178), (some (177, true)), (.mv (.t 5))⟩,
    ⟨(some 179), (some (177, true)), (.mv (.t 8))⟩,
    ⟨(some 180), (some (177, true)), (.bin .eql .none (.t 178) (.t 179))⟩,
    ⟨(some 181), none, (.pick (.t 177) (.t 180) (.c (.v (.bool false))))⟩,
    ⟨(some 182), none, (.mv (.t 181))⟩,
    ⟨(some 183), (some (182, true)), (.call (.c (.fn 14 [])) [])⟩,
    ⟨(some 184), none, (.pick (.t 182) (.t 183) (.c (.v (.bool false))))⟩,
    ⟨(some 2), none, (.mv (.t 184))⟩] false) .ret))))))))))))))))))))⟩
/- standby/standbylaw03.WireBack -/
def s10 : SFn := 
  ⟨.plain, 2, [(.tmp 4)], (.seq [1, 2] (.region [⟨(some 2), none, (.box (.t 0))⟩,
    ⟨(some 4), none, (.mv (.c (.v (.bool false))))⟩] false) (.seq [1, 2] (.seq [1, 2, 27] (.region [⟨(some 20), none, (.load (some 4) (.t 2))⟩,
    ⟨(some 21), none, (.call (.c (.fn 20 [])) [(.t 20)])⟩,
    ⟨(some 22), none, (.un .not (.t 21))⟩,
    ⟨(some 23), none, (.mv (.t 22))⟩,
    ⟨(some 24), (some (23, false)), (.mv (.t 1))⟩,
    ⟨(some 25), (some (23, false)), (.len (.t 24))⟩,
    ⟨(some 26), (some (23, false)), (.bin .gtr .none (.t 25) (.c (.v (.int .i64 200))))⟩,
    ⟨(some 27), none, (.pick (.t 23) (.c (.v (.bool true))) (.t 26))⟩] false) (.cond (.t 27) (.seq [4] (.region [⟨(some 28), none, (.call (.c (.fn 14 [])) [])⟩,
    ⟨(some 4), none, (.mv (.t 28))⟩] false) .ret) .skip)) (.seq [1, 2, 5, 6, 7] (.region [⟨(some 30), none, (.mv (.t 1))⟩,
    ⟨(some 31), none, (.call (.c (.fn 16 [])) [(.c (.v (.slice none 0 0))), (.t 30)])⟩,
    ⟨(some 32), none, (.mv (.t 1))⟩,
    ⟨(some 33), none, (.append 1 1 (.t 31) (.t 32))⟩,
    ⟨(some 34), none, (.call (.c (.fn 33 [])) [(.t 33)])⟩,
    ⟨(some 29), none, (.mv (.t 34))⟩,
    ⟨(some 35), none, (.extract (.t 29) 0)⟩,
    ⟨(some 36), none, (.extract (.t 29) 1)⟩,
    ⟨(some 37), none, (.extract (.t 29) 2)⟩,
    ⟨(some 5), none, (.mv (.t 35))⟩,
    ⟨(some 6), none, (.mv (.t 36))⟩,
    ⟨(some 7), none, (.mv (.t 37))⟩] false) (.seq [1, 2, 5, 6, 7, 8, 9, 10] (.region [⟨(some 39), none, (.faddr 1 (.t 2))⟩,
    ⟨(some 40), none, (.load none (.t 39))⟩,
    ⟨(some 41), none, (.call (.c (.fn 21 [])) [(.c (.v (.slice none 0 0))), (.t 40)])⟩,
    ⟨(some 42), none, (.mv (.t 1))⟩,
    ⟨(some 43), none, (.append 1 1 (.t 41) (.t 42))⟩,
    ⟨(some 44), none, (.call (.c (.fn 30 [])) [(.t 43)])⟩,
    ⟨(some 38), none, (.mv (.t 44))⟩,
    ⟨(some 45), none, (.extract (.t 38) 0)⟩,
    ⟨(some 46), none, (.extract (.t 38) 1)⟩,
    ⟨(some 47), none, (.extract (.t 38) 2)⟩,
    ⟨(some 8), none, (.mv (.t 45))⟩,
    ⟨(some 9), none, (.mv (.t 46))⟩,
    ⟨(some 10), none, (.mv (.t 47))⟩] false) (.seq [1, 2] (.seq [1, 2, 78] (.region [⟨(some 48), none, (.mv (.t 7))⟩,
    ⟨(some 49), none, (.bin .neq .none (.t 48) (.c (.v (.int .i64 0))))⟩,
    ⟨(some 50), none, (.mv (.t 49))⟩,
    ⟨(some 51), (some (50, false)), (.mv (.t 10))⟩,
    ⟨(some 52), (some (50, false)), (.bin .neq .none (.t 51) (.c (.v (.int .i64 0))))⟩,
    ⟨(some 53), none, (.pick (.t 50) (.c (.v (.bool true))) (.t 52))⟩,
    ⟨(some 54), none, (.mv (.t 53))⟩,
    ⟨(some 55), (some (54, false)), (.mv (.t 5))⟩,
    ⟨(some 56), (some (54, false)), (.mv (.t 1))⟩,
    ⟨(some 57), (some (54, false)), (.call (.c (.fn 12 [])) [(.t 55), (.t 56)])⟩,
    ⟨(some 58), (some (54, false)), (.un .not (.t 57))⟩,
    ⟨(some 59), none, (.pick (.t 54) (.c (.v (.bool true))) (.t 58))⟩,
    ⟨(some 60), none, (.mv (.t 59))⟩,
    ⟨(some 61), (some (60, false)), (.mv (.t 6))⟩,
    ⟨(some 62), (some (60, false)), (.mv (.t 1))⟩,
    ⟨(some 63), (some (60, false)), (.call (.c (.fn 12 [])) [(.t 61), (.t 62)])⟩,
    ⟨(some 64), (some (60, false)), (.un .not (.t 63))⟩,
    ⟨(some 65), none, (.pick (.t 60) (.c (.v (.bool true))) (.t 64))⟩,
    ⟨(some 66), none, (.mv (.t 65))⟩,
    ⟨(some 67), (some (66, false)), (.mv (.t 8))⟩,
    ⟨(some 68), (some (66, false)), (.faddr 1 (.t 2))⟩,
    ⟨(some 69), (some (66, false)), (.load none (.t 68))⟩,
    ⟨(some 70), (some (66, false)), (.call (.c (.fn 40 [])) [(.t 67), (.t 69)])⟩,
    ⟨(some 71), (some (66, false)), (.un .not (.t 70))⟩,
    ⟨(some 72), none, (.pick (.t 66) (.c (.v (.bool true))) (.t 71))⟩,
    ⟨(some 73), none, (.mv (.t 72))⟩,
    ⟨(some 74), (some (73, false)), (.mv (.t 9))⟩,
    ⟨(some 75), (some (73, false)), (.mv (.t 1))⟩,
    ⟨(some 76), (some (73, false)), (.call (.c (.fn 12 [])) [(.t 74), (.t 75)])⟩,
    ⟨(some 77), (some (73, false)), (.un .not (.t 76))⟩,
    ⟨(some 78), none, (.pick (.t 73) (.c (.v (.bool true))) (.t 77))⟩] false) (.cond (.t 78) (.seq [4] (.region [⟨(some 4), none, (.mv (.c (.v (.bool false))))⟩] false) .ret) .skip)) (.seq [1, 2] (.seq [1, 2, 82] (.region [⟨(some 79), none, (.faddr 0 (.t 2))⟩,
    ⟨(some 80), none, (.load none (.t 79))⟩,
    ⟨(some 81), none, (.call (.c (.fn 45 [])) [(.t 80), (.c (.fn 46 []))])⟩,
    ⟨(some 82), none, (.un .not (.t 81))⟩] false) (.cond (.t 82) (.seq [1, 2, 11, 12, 13] (.region [⟨(some 84), none, (.faddr 0 (.t 2))⟩,
    ⟨(some 85), none, (.load none (.t 84))⟩,
    ⟨(some 86), none, (.call (.c (.fn 18 [])) [(.c (.v (.slice none 0 0))), (.t 85)])⟩,
    ⟨(some 87), none, (.mv (.t 1))⟩,
    ⟨(some 88), none, (.append 1 1 (.t 86) (.t 87))⟩,
    ⟨(some 89), none, (.call (.c (.fn 31 [])) [(.t 88)])⟩,
    ⟨(some 83), none, (.mv (.t 89))⟩,
    ⟨(some 90), none, (.extract (.t 83) 0)⟩,
    ⟨(some 91), none, (.extract (.t 83) 1)⟩,
    ⟨(some 92), none, (.extract (.t 83) 2)⟩,
    ⟨(some 11), none, (.mv (.t 90))⟩,
    ⟨(some 12), none, (.mv (.t 91))⟩,
    ⟨(some 13), none, (.mv (.t 92))⟩] false) (.seq [1, 2, 107] (.region [⟨(some 93), none, (.mv (.t 13))⟩,
    ⟨(some 94), none, (.bin .neq .none (.t 93) (.c (.v (.int .i64 0))))⟩,
    ⟨(some 95), none, (.mv (.t 94))⟩,
    ⟨(some 96), (some (95, false)), (.mv (.t 11))⟩,
    ⟨(some 97), (some (95, false)), (.faddr 0 (.t 2))⟩,
    ⟨(some 98), (some (95, false)), (.load none (.t 97))⟩,
    ⟨(some 99), (some (95, false)), (.call (.c (.fn 38 [])) [(.t 96), (.t 98)])⟩,
    ⟨(some 100), (some (95, false)), (.un .not (.t 99))⟩,
    ⟨(some 101), none, (.pick (.t 95) (.c (.v (.bool true))) (.t 100))⟩,
    ⟨(some 102), none, (.mv (.t 101))⟩,
    ⟨(some 103), (some (102, false)), (.mv (.t 12))⟩,
    ⟨(some 104), (some (102, false)), (.mv (.t 1))⟩,
    ⟨(some 105), (some (102, false)), (.call (.c (.fn 12 [])) [(.t 103), (.t 104)])⟩,
    ⟨(some 106), (some (102, false)), (.un .not (.t 105))⟩,
    ⟨(some 107), none, (.pick (.t 102) (.c (.v (.bool true))) (.t 106))⟩] false) (.cond (.t 107) (.seq [4] (.region [⟨(some 4), none, (.mv (.c (.v (.bool false))))⟩] false) .ret) .skip))) .skip)) (.seq [1, 2] (.seq [1, 2, 111] (.region [⟨(some 108), none, (.faddr 2 (.t 2))⟩,
    ⟨(some 109), none, (.load none (.t 108))⟩,
    ⟨(some 110), none, (.call (.c (.fn 47 [])) [(.t 109), (.c (.fn 48 []))])⟩,
    ⟨(some 111), none, (.un .not (.t 110))⟩] false) (.cond (.t 111) (.seq [1, 2, 14, 15, 16] (.region [⟨(some 113), none, (.faddr 2 (.t 2))⟩,
    ⟨(some 114), none, (.load none (.t 113))⟩,
    ⟨(some 115), none, (.call (.c (.fn 23 [])) [(.c (.v (.slice none 0 0))), (.t 114)])⟩,
    ⟨(some 116), none, (.mv (.t 1))⟩,
    ⟨(some 117), none, (.append 1 1 (.t 115) (.t 116))⟩,
    ⟨(some 118), none, (.call (.c (.fn 34 [])) [(.t 117)])⟩,
    ⟨(some 112), none, (.mv (.t 118))⟩,
    ⟨(some 119), none, (.extract (.t 112) 0)⟩,
    ⟨(some 120), none, (.extract (.t 112) 1)⟩,
    ⟨(some 121), none, (.extract (.t 112) 2)⟩,
    ⟨(some 14), none, (.mv (.t 119))⟩,
    ⟨(some 15), none, (.mv (.t 120))⟩,
    ⟨(some 16), none, (.mv (.t 121))⟩] false) (.seq [1, 2, 136] (.region [⟨(some 122), none, (.mv (.t 16))⟩,
    ⟨(some 123), none, (.bin .neq .none (.t 122) (.c (.v (.int .i64 0))))⟩,
    ⟨(some 124), none, (.mv (.t 123))⟩,
    ⟨(some 125), (some (124, false)), (.mv (.t 14))⟩,
    ⟨(some 126), (some (124, false)), (.faddr 2 (.t 2))⟩,
    ⟨(some 127), (some (124, false)), (.load none (.t 126))⟩,
    ⟨(some 128), (some (124, false)), (.call (.c (.fn 42 [])) [(.t 125), (.t 127)])⟩,
    ⟨(some 129), (some (124, false)), (.un .not (.t 128))⟩,
    ⟨(some 130), none, (.pick (.t 124) (.c (.v (.bool true))) (.t 129))⟩,
    ⟨(some 131), none, (.mv (.t 130))⟩,
    ⟨(some 132), (some (131, false)), (.mv (.t 15))⟩,
    ⟨(some 133), (some (131, false)), (.mv (.t 1))⟩,
    ⟨(some 134), (some (131, false)), (.call (.c (.fn 12 [])) [(.t 132), (.t 133)])⟩,
    ⟨(some 135), (some (131, false)), (.un .not (.t 134))⟩,
    ⟨(some 136), none, (.pick (.t 131) (.c (.v (.bool true))) (.t 135))⟩] false) (.cond (.t 136) (.seq [4] (.region [⟨(some 4), none, (.mv (.c (.v (.bool false))))⟩] false) .ret) .skip))) .skip)) (.seq [] (.seq [1, 2, 140] (.region [⟨(some 137), none, (.faddr 3 (.t 2))⟩,
    ⟨(some 138), none, (.load none (.t 137))⟩,
    ⟨(some 139), none, (.call (.c (.fn 49 [])) [(.t 138), (.c (.fn 50 []))])⟩,
    ⟨(some 140), none, (.un .not (.t 139))⟩] false) (.cond (.t 140) (.seq [1, 2, 17, 18, 19] (.region [⟨(some 142), none, (.faddr 3 (.t 2))⟩,
    ⟨(some 143), none, (.load none (.t 142))⟩,
    ⟨(some 144), none, (.call (.c (.fn 25 [])) [(.c (.v (.slice none 0 0))), (.t 143)])⟩,
    ⟨(some 145), none, (.mv (.t 1))⟩,
    ⟨(some 146), none, (.append 1 1 (.t 144) (.t 145))⟩,
    ⟨(some 147), none, (.call (.c (.fn 29 [])) [(.t 146)])⟩,
    ⟨(some 141), none, (.mv (.t 147))⟩,
    ⟨(some 148), none, (.extract (.t 141) 0)⟩,
    ⟨(some 149), none, (.extract (.t 141) 1)⟩,
    ⟨(some 150), none, (.extract (.t 141) 2)⟩,
    ⟨(some 17), none, (.mv (.t 148))⟩,
    ⟨(some 18), none, (.mv (.t 149))⟩,
    ⟨(some 19), none, (.mv (.t 150))⟩] false) (.seq [165] (.region [⟨(some 151), none, (.mv (.t 19))⟩,
    ⟨(some 152), none, (.bin .neq .none (.t 151) (.c (.v (.int .i64 0))))⟩,
    ⟨(some 153), none, (.mv (.t 152))⟩,
    ⟨(some 154), (some (153, false)), (.mv (.t 17))⟩,
    ⟨(some 155), (some (153, false)), (.faddr 3 (.t 2))⟩,
    ⟨(some 156), (some (153, false)), (.load none (.t 155))⟩,
    ⟨(some 157), (some (153, false)), (.call (.c (.fn 44 [])) [(.t 154), (.t 156)])⟩,
    ⟨(some 158), (some (153, false)), (.un .not (.t 157))⟩,
    ⟨(some 159), none, (.pick (.t 153) (.c (.v (.bool true))) (.t 158))⟩,
    ⟨(some 160), none, (.mv (.t 159))⟩,
    ⟨(some 161), (some (160, false)), (.mv (.t 18))⟩,
    ⟨(some 162), (some (160, false)), (.mv (.t 1))⟩,
    ⟨(some 163), (some (160, false)), (.call (.c (.fn 12 [])) [(.t 161), (.t 162)])⟩,
    ⟨(some 164), (some (160, false)), (.un .not (.t 163))⟩,
    ⟨(some 165), none, (.pick (.t 160) (.c (.v (.bool true))) (.t 164))⟩] false) (.cond (.t 165) (.seq [4] (.region [⟨(some 4), none, (.mv (.c (.v (.bool false))))⟩] false) .ret) .skip))) .skip)) (.seq [4] (.region [⟨(some 166), none, (.call (.c (.fn 14 [])) [])⟩,
    ⟨(some 4), none, (.mv (.t 166))⟩] false) .ret)))))))))⟩
/- standby/standbylaw03.inRange -/
def s11 : SFn := 
  ⟨.plain, 1, [(.tmp 2)], (.seq [0] (.region [⟨(some 2), none, (.mv (.c (.v (.bool false))))⟩] false) (.seq [2] (.region [⟨(some 3), none, (.mv (.t 0))⟩,
    ⟨(some 4), none, (.bin .geq .none (.t 3) (.c (.v (.int .i64 0))))⟩,
    ⟨(some 5), none, (.mv (.t 4))⟩,
    ⟨(some 6), (some (5, true)), (.mv (.t 0))⟩,
    ⟨(some 7), (some (5, true)), (.bin .lss .none (.t 6) (.c (.v (.int .i64 9007199254740992))))⟩,
    ⟨(some 8), none, (.pick (.t 5) (.t 7) (.c (.v (.bool false))))⟩,
    ⟨(some 2), none, (.mv (.t 8))⟩] false) .ret))⟩
/- bytes.Equal -/
def s12 : SFn := 
  ⟨.plain, 2, [(.tmp 4)], (.seq [0, 1] (.region [⟨(some 4), none, (.mv (.c (.v (.bool false))))⟩] false) (.seq [4] (.region [⟨(some 5), none, (.mv (.t 0))⟩,
    ⟨(some 6), none, (.tostr (.t 5))⟩,
    ⟨(some 7), none, (.mv (.t 1))⟩,
    ⟨(some 8), none, (.tostr (.t 7))⟩,
    ⟨(some 9), none, (.bin .eql .none (.t 6) (.t 8))⟩,
    ⟨(some 4), none, (.mv (.t 9))⟩] false) .ret))⟩
/- standby/wire.PutInt -/
def s13 : SFn := 
  ⟨.keep, 2, [(.tmp 4)], (.seq [0, 1] (.region [⟨(some 4), none, (.mv (.c (.v (.slice none 0 0))))⟩] false) (.seq [4] (.region [⟨(some 5), none, (.mv (.t 0))⟩,
    ⟨(some 6), none, (.call (.c (.fn 27 [])) [(.t 5)])⟩,
    ⟨(some 7), none, (.mv (.t 1))⟩,
    ⟨(some 8), none, (.call (.c (.fn 51 [])) [(.t 6), (.t 7)])⟩,
    ⟨(some 4), none, (.mv (.t 8))⟩] false) .ret))⟩
/- standby/standbylaw03.awake -/
def s14 : SFn := 
  ⟨.plain, 0, [(.tmp 0)], (.seq [] (.region [⟨(some 0), none, (.mv (.c (.v (.bool false))))⟩] false) (.seq [1, 2, 3] (.region [⟨(some 16), none, (.bslice [(.v (.int .u8 0))] 3 [(0, (1, (.c (.v (.int .u8 172))))), (1, (1, (.c (.v (.int .u8 2))))), (2, (1, (.c (.v (.int .u8 9)))))])⟩,
    ⟨(some 17), none, (.call (.c (.fn 28 [])) [(.t 16)])⟩,
    ⟨(some 15), none, (.mv (.t 17))⟩,
    ⟨(some 18), none, (.extract (.t 15) 0)⟩,
    ⟨(some 19), none, (.extract (.t 15) 1)⟩,
    ⟨(some 20), none, (.extract (.t 15) 2)⟩,
    ⟨(some 1), none, (.mv (.t 18))⟩,
    ⟨(some 2), none, (.mv (.t 19))⟩,
    ⟨(some 3), none, (.mv (.t 20))⟩] false) (.seq [1, 2, 3, 6] (.region [⟨(some 22), none, (.bslice [(.v (.int .u8 0))] 2 [(0, (1, (.c (.v (.int .u8 128))))), (1, (1, (.c (.v (.int .u8 0)))))])⟩,
    ⟨(some 23), none, (.call (.c (.fn 28 [])) [(.t 22)])⟩,
    ⟨(some 21), none, (.mv (.t 23))⟩,
    ⟨(some 24), none, (.extract (.t 21) 0)⟩,
    ⟨(some 25), none, (.extract (.t 21) 1)⟩,
    ⟨(some 26), none, (.extract (.t 21) 2)⟩,
    ⟨(some 4), none, (.mv (.t 24))⟩,
    ⟨(some 5), none, (.mv (.t 25))⟩,
    ⟨(some 6), none, (.mv (.t 26))⟩] false) (.seq [1, 2, 3, 6, 9] (.region [⟨(some 28), none, (.bslice [(.v (.int .u8 0))] 1 [(0, (1, (.c (.v (.int .u8 128)))))])⟩,
    ⟨(some 29), none, (.call (.c (.fn 28 [])) [(.t 28)])⟩,
    ⟨(some 27), none, (.mv (.t 29))⟩,
    ⟨(some 30), none, (.extract (.t 27) 0)⟩,
    ⟨(some 31), none, (.extract (.t 27) 1)⟩,
    ⟨(some 32), none, (.extract (.t 27) 2)⟩,
    ⟨(some 7), none, (.mv (.t 30))⟩,
    ⟨(some 8), none, (.mv (.t 31))⟩,
    ⟨(some 9), none, (.mv (.t 32))⟩] false) (.seq [1, 2, 3, 6, 9, 12] (.region [⟨(some 34), none, (.bslice [(.v (.int .u8 0))] 8 [(0, (1, (.c (.v (.int .u8 255))))), (1, (1, (.c (.v (.int .u8 255))))), (2, (1, (.c (.v (.int .u8 255))))), (3, (1, (.c (.v (.int .u8 255))))), (4, (1, (.c (.v (.int .u8 255))))), (5, (1, (.c (.v (.int .u8 255))))), (6, (1, (.c (.v (.int .u8 255))))), (7, (1, (.c (.v (.int .u8 16)))))])⟩,
    ⟨(some 35), none, (.call (.c (.fn 28 [])) [(.t 34)])⟩,
    ⟨(some 33), none, (.mv (.t 35))⟩,
    ⟨(some 36), none, (.extract (.t 33) 0)⟩,
    ⟨(some 37), none, (.extract (.t 33) 1)⟩,
    ⟨(some 38), none, (.extract (.t 33) 2)⟩,
    ⟨(some 10), none, (.mv (.t 36))⟩,
    ⟨(some 11), none, (.mv (.t 37))⟩,
    ⟨(some 12), none, (.mv (.t 38))⟩] false) (.seq [1, 2, 3, 6, 9, 12, 13] (.region [⟨(some 39), none, (.mkslice [(.v (.int .u8 0)), (.v (.int .u8 0)), (.v (.int .u8 0)), (.v (.int .u8 0)), (.v (.int .u8 0)), (.v (.int .u8 0)), (.v (.int .u8 0)), (.v (.int .u8 0))] 8 (.c (.v (.int .i64 1))) (.c (.v (.int .i64 1))))⟩,
    ⟨(some 40), none, (.build [(.v (.int .i64 0)), (.v (.int .i64 0)), (.v (.slice none 0 0))] [(0, (1, (.c (.v (.int .i64 1))))), (1, (1, (.c (.v (.int .i64 2))))), (2, (1, (.t 39)))])⟩,
    ⟨(some 41), none, (.bslice [(.v (.int .i64 0)), (.v (.int .i64 0)), (.v (.slice none 0 0))] 1 [(0, (3, (.t 40)))])⟩,
    ⟨(some 42), none, (.call (.c (.fn 25 [])) [(.c (.v (.slice none 0 0))), (.t 41)])⟩,
    ⟨(some 13), none, (.mv (.t 42))⟩] false) (.seq [1, 2, 3, 6, 9, 12, 13, 14] (.region [⟨(some 43), none, (.build [(.v (.int .i64 0)), (.v (.int .i64 0))] [(0, (1, (.c (.v (.int .i64 0))))), (1, (1, (.c (.v (.int .i64 4)))))])⟩,
    ⟨(some 44), none, (.build [(.v (.int .i64 0)), (.v (.int .i64 0))] [(0, (1, (.c (.v (.int .i64 200))))), (1, (1, (.c (.v (.int .i64 1)))))])⟩,
    ⟨(some 45), none, (.bslice [(.v (.int .i64 0)), (.v (.int .i64 0))] 2 [(0, (2, (.t 43))), (2, (2, (.t 44)))])⟩,
    ⟨(some 46), none, (.call (.c (.fn 23 [])) [(.c (.v (.slice none 0 0))), (.t 45)])⟩,
    ⟨(some 14), none, (.mv (.t 46))⟩] false) (.seq [0] (.region [⟨(some 47), none, (.mv (.t 1))⟩,
    ⟨(some 48), none, (.bin .eql .none (.t 47) (.c (.v (.int .i64 300))))⟩,
    ⟨(some 49), none, (.mv (.t 48))⟩,
    ⟨(some 50), (some (49, true)), (.mv (.t 2))⟩,
    ⟨(some 51), (some (49, true)), (.bslice [(.v (.int .u8 0))] 1 [(0, (1, (.c (.v (.int .u8 9)))))])⟩,
    ⟨(some 52), (some (49, true)), (.call (.c (.fn 12 [])) [(.t 50), (.t 51)])⟩,
    ⟨(some 53), none, (.pick (.t 49) (.t 52) (.c (.v (.bool false))))⟩,
    ⟨(some 54), none, (.mv (.t 53))⟩,
    ⟨(some 55), (some (54, true)), (.mv (.t 3))⟩,
    ⟨(some 56), (some (54, true)), (.bin .eql .none (.t 55) (.c (.v (.int .i64 0))))⟩,
    ⟨(some 57), none, (.pick (.t 54) (.t 56) (.c (.v (.bool false))))⟩,
    ⟨(some 58), none, (.mv (.t 57))⟩,
    ⟨(some 59), (some (58, true)), (.mv (.t 6))⟩,
    ⟨(some 60), (some (58, true)), (.bin .eql .none (.t 59) (.c (.v (.int .i64 3))))⟩,
    ⟨(some 61), none, (.pick (.t 58) (.t 60) (.c (.v (.bool false))))⟩,
    ⟨(some 62), none, (.mv (.t 61))⟩,
    ⟨(some 63), (some (62, true)), (.mv (.t 9))⟩,
    ⟨(some 64), (some (62, true)), (.bin .eql .none (.t 63) (.c (.v (.int .i64 10))))⟩,
    ⟨(some 65), none, (.pick (.t 62) (.t 64) (.c (.v (.bool false))))⟩,
    ⟨(some 66), none, (.mv (.t 65))⟩,
    ⟨(some 67), (some (66, true)), (.mv (.t 12))⟩,
    ⟨(some 68), (some (66, true)), (.bin .eql .none (.t 67) (.c (.v (.int .i64 3))))⟩,
    ⟨(some 69), none, (.pick (.t 66) (.t 68) (.c (.v (.bool false))))⟩,
    ⟨(some 70), none, (.mv (.t 69))⟩,
    ⟨(some 71), (some (70, true)), (.mv (.t 13))⟩,
    ⟨(some 72), (some (70, true)), (.bslice [(.v (.int .u8 0))] 12 [(0, (1, (.c (.v (.int .u8 1))))), (1, (1, (.c (.v (.int .u8 1))))), (2, (1, (.c (.v (.int .u8 2))))), (3, (1, (.c (.v (.int .u8 1))))), (4, (1, (.c (.v (.int .u8 0))))), (5, (1, (.c (.v (.int .u8 0))))), (6, (1, (.c (.v (.int .u8 0))))), (7, (1, (.c (.v (.int .u8 0))))), (8, (1, (.c (.v (.int .u8 0))))), (9, (1, (.c (.v (.int .u8 0))))), (10, (1, (.c (.v (.int .u8 0))))), (11, (1, (.c (.v (.int .u8 0)))))])⟩,
    ⟨(some 73), (some (70, true)), (.call (.c (.fn 12 [])) [(.t 71), (.t 72)])⟩,
    ⟨(some 74), none, (.pick (.t 70) (.t 73) (.c (.v (.bool false))))⟩,
    ⟨(some 75), none, (.mv (.t 74))⟩,
    ⟨(some 76), (some (75, true)), (.mv (.t 14))⟩,
    ⟨(some 77), (some (75, true)), (.bslice [(.v (.int .u8 0))] 6 [(0, (1, (.c (.v (.int .u8 2))))), (1, (1, (.c (.v (.int .u8 0))))), (2, (1, (.c (.v (.int .u8 4))))), (3, (1, (.c (.v (.int .u8 200))))), (4, (1, (.c (.v (.int .u8 1))))), (5, (1, (.c (.v (.int .u8 1)))))])⟩,
    ⟨(some 78), (some (75, true)), (.call (.c (.fn 12 [])) [(.t 76), (.t 77)])⟩,
    ⟨(some 79), none, (.pick (.t 75) (.t 78) (.c (.v (.bool false))))⟩,
    ⟨(some 0), none, (.mv (.t 79))⟩] false) .ret))))))))⟩
/- standby/standbyref03.PutInt -/
def s15b0 : SCode := 
  (.seq [1, 5] (.seq [1, 5, 16] (.region [⟨(some 15), none, (.mv (.t 1))⟩,
    ⟨(some 16), none, (.bin .gtr .none (.t 15) (.c (.v (.int .i64 127))))⟩] false) (.cond (.t 16) .skip (.exit 0))) (.block 1 (.seq [1, 5] (.region [⟨(some 17), none, (.mv (.t 5))⟩,
    ⟨(some 18), none, (.mv (.t 1))⟩,
    ⟨(some 19), none, (.bin .rem .none (.t 18) (.c (.v (.int .i64 128))))⟩,
    ⟨(some 20), none, (.bin .add .none (.t 19) (.c (.v (.int .i64 128))))⟩,
    ⟨(some 21), none, (.conv .u8 (.t 20))⟩,
    ⟨(some 22), none, (.bslice [(.v (.int .u8 0))] 1 [(0, (1, (.t 21)))])⟩,
    ⟨(some 23), none, (.append 1 1 (.t 17) (.t 22))⟩,
    ⟨(some 5), none, (.mv (.t 23))⟩] false) (.region [⟨(some 24), none, (.mv (.t 1))⟩,
    ⟨(some 25), none, (.bin .quo .none (.t 24) (.c (.v (.int .i64 128))))⟩,
    ⟨(some 1), none, (.mv (.t 25))⟩] false))))
def s15 : SFn := 
  ⟨.keep, 2, [(.tmp 4)], (.seq [0, 1] (.region [⟨(some 4), none, (.mv (.c (.v (.slice none 0 0))))⟩] false) (.seq [0, 1, 5] (.region [⟨(some 5), none, (.mv (.c (.v (.slice none 0 0))))⟩] false) (.seq [1, 5] (.region [⟨(some 6), none, (.mv (.t 5))⟩,
    ⟨(some 7), none, (.mv (.t 0))⟩,
    ⟨(some 8), none, (.append 1 1 (.t 6) (.t 7))⟩,
    ⟨(some 5), none, (.mv (.t 8))⟩] false) (.seq [1, 5] (.seq [1, 5, 14] (.region [⟨(some 9), none, (.mv (.t 1))⟩,
    ⟨(some 10), none, (.bin .lss .none (.t 9) (.c (.v (.int .i64 0))))⟩,
    ⟨(some 11), none, (.mv (.t 10))⟩,
    ⟨(some 12), (some (11, false)), (.mv (.t 1))⟩,
    ⟨(some 13), (some (11, false)), (.bin .gtr .none (.t 12) (.c (.v (.int .i64 9007199254740991))))⟩,
    ⟨(some 14), none, (.pick (.t 11) (.c (.v (.bool true))) (.t 13))⟩] false) (.cond (.t 14) (.region [⟨(some 1), none, (.mv (.c (.v (.int .i64 0))))⟩] false) .skip)) (.seq [1, 5] (.block 0 (.loop [1, 5] s15b0)) (.seq [4] (.region [⟨(some 26), none, (.mv (.t 5))⟩,
    ⟨(some 27), none, (.mv (.t 1))⟩,
    ⟨(some 28), none, (.conv .u8 (.t 27))⟩,
    ⟨(some 29), none, (.bslice [(.v (.int .u8 0))] 1 [(0, (1, (.t 28)))])⟩,
    ⟨(some 30), none, (.append 1 1 (.t 26) (.t 29))⟩,
    ⟨(some 4), none, (.mv (.t 30))⟩] false) .ret))))))⟩
/- standby/wire.PutBytes -/
def s16 : SFn := 
  ⟨.keep, 2, [(.tmp 4)], (.seq [0, 1] (.region [⟨(some 4), none, (.mv (.c (.v (.slice none 0 0))))⟩] false) (.seq [4] (.region [⟨(some 5), none, (.mv (.t 0))⟩,
    ⟨(some 6), none, (.mv (.t 1))⟩,
    ⟨(some 7), none, (.len (.t 6))⟩,
    ⟨(some 8), none, (.call (.c (.fn 13 [])) [(.t 5), (.t 7)])⟩,
    ⟨(some 9), none, (.mv (.t 1))⟩,
    ⟨(some 10), none, (.append 1 1 (.t 8) (.t 9))⟩,
    ⟨(some 4), none, (.mv (.t 10))⟩] false) .ret))⟩
/- standby/standbyref03.PutBytes -/
def s17 : SFn := 
  ⟨.keep, 2, [(.tmp 4)], (.seq [0, 1] (.region [⟨(some 4), none, (.mv (.c (.v (.slice none 0 0))))⟩] false) (.seq [4] (.region [⟨(some 5), none, (.mv (.t 0))⟩,
    ⟨(some 6), none, (.mv (.t 1))⟩,
    ⟨(some 7), none, (.len (.t 6))⟩,
    ⟨(some 8), none, (.call (.c (.fn 15 [])) [(.t 5), (.t 7)])⟩,
    ⟨(some 9), none, (.mv (.t 1))⟩,
    ⟨(some 10), none, (.append 1 1 (.t 8) (.t 9))⟩,
    ⟨(some 4), none, (.mv (.t 10))⟩] false) .ret))⟩
/- standby/wire.PutInts -/
def s18 : SFn := 
  ⟨.keep, 2, [(.tmp 4)], (.seq [0, 1] (.region [⟨(some 4), none, (.mv (.c (.v (.slice none 0 0))))⟩] false) (.seq [4] (.region [⟨(some 5), none, (.mv (.t 0))⟩,
    ⟨(some 6), none, (.call (.c (.fn 27 [])) [(.t 5)])⟩,
    ⟨(some 7), none, (.mv (.t 1))⟩,
    ⟨(some 8), none, (.call (.c (.fn 52 [])) [(.t 6), (.t 7), (.c (.fn 51 []))])⟩,
    ⟨(some 4), none, (.mv (.t 8))⟩] false) .ret))⟩
/- standby/standbyref03.PutInts -/
def s19b0 : SCode := 
  (.seq [1, 5, 6] (.seq [1, 5, 6, 14] (.region [⟨(some 11), none, (.mv (.t 6))⟩,
    ⟨(some 12), none, (.mv (.t 1))⟩,
    ⟨(some 13), none, (.len (.t 12))⟩,
    ⟨(some 14), none, (.bin .lss .none (.t 11) (.t 13))⟩] false) (.cond (.t 14) .skip (.exit 0))) (.seq [1, 5, 6] (.block 1 (.region [⟨(some 17), none, (.mv (.t 5))⟩,
    ⟨(some 18), none, (.mv (.t 1))⟩,
    ⟨(some 19), none, (.mv (.t 6))⟩,
    ⟨(some 20), none, (.iaddr 1 none (.t 18) (.t 19))⟩,
    ⟨(some 21), none, (.load none (.t 20))⟩,
    ⟨(some 22), none, (.call (.c (.fn 15 [])) [(.t 17), (.t 21)])⟩,
    ⟨(some 5), none, (.mv (.t 22))⟩] false)) (.region [⟨(some 15), none, (.mv (.t 6))⟩,
    ⟨(some 16), none, (.bin .add .none (.t 15) (.c (.v (.int .i64 1))))⟩,
    ⟨(some 6), none, (.mv (.t 16))⟩] false)))
def s19 : SFn := 
  ⟨.keep, 2, [(.tmp 4)], (.seq [0, 1] (.region [⟨(some 4), none, (.mv (.c (.v (.slice none 0 0))))⟩] false) (.seq [1, 5] (.region [⟨(some 7), none, (.mv (.t 0))⟩,
    ⟨(some 8), none, (.mv (.t 1))⟩,
    ⟨(some 9), none, (.len (.t 8))⟩,
    ⟨(some 10), none, (.call (.c (.fn 15 [])) [(.t 7), (.t 9)])⟩,
    ⟨(some 5), none, (.mv (.t 10))⟩] false) (.seq [5] (.seq [1, 5, 6] (.region [⟨(some 6), none, (.mv (.c (.v (.int .i64 0))))⟩] false) (.block 0 (.loop [1, 5, 6] s19b0))) (.seq [4] (.region [⟨(some 23), none, (.mv (.t 5))⟩,
    ⟨(some 4), none, (.mv (.t 23))⟩] false) .ret))))⟩
/- (standby/standbylaw03.Values).few -/
def s20 : SFn := 
  ⟨.plain, 1, [(.tmp 2)], (.seq [1] (.region [⟨(some 1), none, (.box (.t 0))⟩,
    ⟨(some 2), none, (.mv (.c (.v (.bool false))))⟩] false) (.seq [2] (.region [⟨(some 3), none, (.faddr 0 (.t 1))⟩,
    ⟨(some 4), none, (.load none (.t 3))⟩,
    ⟨(some 5), none, (.len (.t 4))⟩,
    ⟨(some 6), none, (.bin .leq .none (.t 5) (.c (.v (.int .i64 40))))⟩,
    ⟨(some 7), none, (.mv (.t 6))⟩,
    ⟨(some 8), (some (7, true)), (.faddr 1 (.t 1))⟩,
    ⟨(some 9), (some (7, true)), (.load none (.t 8))⟩,
    ⟨(some 10), (some (7, true)), (.len (.t 9))⟩,
    ⟨(some 11), (some (7, true)), (.bin .leq .none (.t 10) (.c (.v (.int .i64 40))))⟩,
    ⟨(some 12), none, (.pick (.t 7) (.t 11) (.c (.v (.bool false))))⟩,
    ⟨(some 13), none, (.mv (.t 12))⟩,
    ⟨(some 14), (some (13, true)), (.faddr 2 (.t 1))⟩,
    ⟨(some 15), (some (13, true)), (.load none (.t 14))⟩,
    ⟨(some 16), (some (13, true)), (.len (.t 15))⟩,
    ⟨(some 17), (some (13, true)), (.bin .leq .none (.t 16) (.c (.v (.int .i64 40))))⟩,
    ⟨(some 18), none, (.pick (.t 13) (.t 17) (.c (.v (.bool false))))⟩,
    ⟨(some 19), none, (.mv (.t 18))⟩,
    ⟨(some 20), (some (19, true)), (.faddr 3 (.t 1))⟩,
    ⟨(some 21), (some (19, true)), (.load none (.t 20))⟩,
    ⟨(some 22), (some (19, true)), (.len (.t 21))⟩,
    ⟨(some 23), (some (19, true)), (.bin .leq .none (.t 22) (.c (.v (.int .i64 20))))⟩,
    ⟨(some 24), none, (.pick (.t 19) (.t 23) (.c (.v (.bool false))))⟩,
    ⟨(some 25), none, (.mv (.t 24))⟩,
    ⟨(some 26), (some (25, true)), (.faddr 3 (.t 1))⟩,
    ⟨(some 27), (some (25, true)), (.load none (.t 26))⟩,
    ⟨(some 28), (some (25, true)), (.call (.c (.fn 49 [])) [(.t 27), (.c (.fn 53 []))])⟩,
    ⟨(some 29), (some (25, true)), (.un .not (.t 28))⟩,
    ⟨(some 30), none, (.pick (.t 25) (.t 29) (.c (.v (.bool false))))⟩,
    ⟨(some 2), none, (.mv (.t 30))⟩] false) .ret))⟩
/- standby/wire.PutSectors -/
def s21 : SFn := 
  ⟨.keep, 2, [(.tmp 4)], (.seq [0, 1] (.region [⟨(some 4), none, (.mv (.c (.v (.slice none 0 0))))⟩] false) (.seq [4] (.region [⟨(some 5), none, (.mv (.t 0))⟩,
    ⟨(some 6), none, (.call (.c (.fn 27 [])) [(.t 5)])⟩,
    ⟨(some 7), none, (.mv (.t 1))⟩,
    ⟨(some 8), none, (.call (.c (.fn 54 [])) [(.t 6), (.t 7), (.c (.fn 55 []))])⟩,
    ⟨(some 4), none, (.mv (.t 8))⟩] false) .ret))⟩
/- standby/standbyref03.PutSectors -/
def s22b0 : SCode := 
  (.seq [1, 5, 6, 7] (.seq [1, 5, 6, 7, 19] (.region [⟨(some 18), none, (.mv (.t 7))⟩,
    ⟨(some 19), none, (.bin .lss .none (.t 18) (.c (.v (.int .i64 8))))⟩] false) (.cond (.t 19) .skip (.exit 2))) (.seq [1, 5, 6, 7] (.block 3 (.region [⟨(some 22), none, (.mv (.t 5))⟩,
    ⟨(some 23), none, (.mv (.t 1))⟩,
    ⟨(some 24), none, (.mv (.t 6))⟩,
    ⟨(some 25), none, (.mv (.t 7))⟩,
    ⟨(some 26), none, (.iaddr 8 none (.t 23) (.t 24))⟩,
    ⟨(some 27), none, (.iaddr 1 (some 8) (.t 26) (.t 25))⟩,
    ⟨(some 28), none, (.load none (.t 27))⟩,
    ⟨(some 29), none, (.bslice [(.v (.int .u8 0))] 1 [(0, (1, (.t 28)))])⟩,
    ⟨(some 30), none, (.append 1 1 (.t 22) (.t 29))⟩,
    ⟨(some 5), none, (.mv (.t 30))⟩] false)) (.region [⟨(some 20), none, (.mv (.t 7))⟩,
    ⟨(some 21), none, (.bin .add .none (.t 20) (.c (.v (.int .i64 1))))⟩,
    ⟨(some 7), none, (.mv (.t 21))⟩] false)))
def s22b1 : SCode := 
  (.seq [1, 5, 6] (.seq [1, 5, 6, 15] (.region [⟨(some 12), none, (.mv (.t 6))⟩,
    ⟨(some 13), none, (.mv (.t 1))⟩,
    ⟨(some 14), none, (.len (.t 13))⟩,
    ⟨(some 15), none, (.bin .lss .none (.t 12) (.t 14))⟩] false) (.cond (.t 15) .skip (.exit 0))) (.seq [1, 5, 6] (.block 1 (.seq [1, 5, 6, 7] (.region [⟨(some 7), none, (.mv (.c (.v (.int .i64 0))))⟩] false) (.block 2 (.loop [1, 5, 6, 7] s22b0)))) (.region [⟨(some 16), none, (.mv (.t 6))⟩,
    ⟨(some 17), none, (.bin .add .none (.t 16) (.c (.v (.int .i64 1))))⟩,
    ⟨(some 6), none, (.mv (.t 17))⟩] false)))
def s22 : SFn := 
  ⟨.keep, 2, [(.tmp 4)], (.seq [0, 1] (.region [⟨(some 4), none, (.mv (.c (.v (.slice none 0 0))))⟩] false) (.seq [1, 5] (.region [⟨(some 8), none, (.mv (.t 0))⟩,
    ⟨(some 9), none, (.mv (.t 1))⟩,
    ⟨(some 10), none, (.len (.t 9))⟩,
    ⟨(some 11), none, (.call (.c (.fn 15 [])) [(.t 8), (.t 10)])⟩,
    ⟨(some 5), none, (.mv (.t 11))⟩] false) (.seq [5] (.seq [1, 5, 6] (.region [⟨(some 6), none, (.mv (.c (.v (.int .i64 0))))⟩] false) (.block 0 (.loop [1, 5, 6] s22b1))) (.seq [4] (.region [⟨(some 31), none, (.mv (.t 5))⟩,
    ⟨(some 4), none, (.mv (.t 31))⟩] false) .ret))))⟩
/- standby/wire.PutExtents -/
def s23 : SFn := 
  ⟨.keep, 2, [(.tmp 4)], (.seq [0, 1] (.region [⟨(some 4), none, (.mv (.c (.v (.slice none 0 0))))⟩] false) (.seq [4] (.region [⟨(some 5), none, (.mv (.t 0))⟩,
    ⟨(some 6), none, (.call (.c (.fn 27 [])) [(.t 5)])⟩,
    ⟨(some 7), none, (.mv (.t 1))⟩,
    ⟨(some 8), none, (.call (.c (.fn 56 [])) [(.t 6), (.t 7), (.c (.fn 57 []))])⟩,
    ⟨(some 4), none, (.mv (.t 8))⟩] false) .ret))⟩
/- standby/standbyref03.PutExtents -/
def s24b0 : SCode := 
  (.seq [1, 5, 6] (.seq [1, 5, 6, 14] (.region [⟨(some 11), none, (.mv (.t 6))⟩,
    ⟨(some 12), none, (.mv (.t 1))⟩,
    ⟨(some 13), none, (.len (.t 12))⟩,
    ⟨(some 14), none, (.bin .lss .none (.t 11) (.t 13))⟩] false) (.cond (.t 14) .skip (.exit 0))) (.seq [1, 5, 6] (.block 1 (.region [⟨(some 17), none, (.mv (.t 5))⟩,
    ⟨(some 18), none, (.mv (.t 1))⟩,
    ⟨(some 19), none, (.mv (.t 6))⟩,
    ⟨(some 20), none, (.iaddr 2 none (.t 18) (.t 19))⟩,
    ⟨(some 21), none, (.faddr 0 (.t 20))⟩,
    ⟨(some 22), none, (.load none (.t 21))⟩,
    ⟨(some 23), none, (.call (.c (.fn 15 [])) [(.t 17), (.t 22)])⟩,
    ⟨(some 24), none, (.mv (.t 1))⟩,
    ⟨(some 25), none, (.mv (.t 6))⟩,
    ⟨(some 26), none, (.iaddr 2 none (.t 24) (.t 25))⟩,
    ⟨(some 27), none, (.faddr 1 (.t 26))⟩,
    ⟨(some 28), none, (.load none (.t 27))⟩,
    ⟨(some 29), none, (.call (.c (.fn 15 [])) [(.t 23), (.t 28)])⟩,
    ⟨(some 5), none, (.mv (.t 29))⟩] true)) (.region [⟨(some 15), none, (.mv (.t 6))⟩,
    ⟨(some 16), none, (.bin .add .none (.t 15) (.c (.v (.int .i64 1))))⟩,
    ⟨(some 6), none, (.mv (.t 16))⟩] false)))
def s24 : SFn := 
  ⟨.keep, 2, [(.tmp 4)], (.seq [0, 1] (.region [⟨(some 4), none, (.mv (.c (.v (.slice none 0 0))))⟩] false) (.seq [1, 5] (.region [⟨(some 7), none, (.mv (.t 0))⟩,
    ⟨(some 8), none, (.mv (.t 1))⟩,
    ⟨(some 9), none, (.len (.t 8))⟩,
    ⟨(some 10), none, (.call (.c (.fn 15 [])) [(.t 7), (.t 9)])⟩,
    ⟨(some 5), none, (.mv (.t 10))⟩] false) (.seq [5] (.seq [1, 5, 6] (.region [⟨(some 6), none, (.mv (.c (.v (.int .i64 0))))⟩] false) (.block 0 (.loop [1, 5, 6] s24b0))) (.seq [4] (.region [⟨(some 30), none, (.mv (.t 5))⟩,
    ⟨(some 4), none, (.mv (.t 30))⟩] false) .ret))))⟩
/- standby/wire.PutWrites -/
def s25 : SFn := 
  ⟨.keep, 2, [(.tmp 4)], (.seq [0, 1] (.region [⟨(some 4), none, (.mv (.c (.v (.slice none 0 0))))⟩] false) (.seq [4] (.region [⟨(some 5), none, (.mv (.t 0))⟩,
    ⟨(some 6), none, (.call (.c (.fn 27 [])) [(.t 5)])⟩,
    ⟨(some 7), none, (.mv (.t 1))⟩,
    ⟨(some 8), none, (.call (.c (.fn 58 [])) [(.t 6), (.t 7), (.c (.fn 59 []))])⟩,
    ⟨(some 4), none, (.mv (.t 8))⟩] false) .ret))⟩
/- standby/standbyref03.PutWrites -/
def s26b0 : SCode := 
  (.seq [1, 5, 6] (.seq [1, 5, 6, 14] (.region [⟨(some 11), none, (.mv (.t 6))⟩,
    ⟨(some 12), none, (.mv (.t 1))⟩,
    ⟨(some 13), none, (.len (.t 12))⟩,
    ⟨(some 14), none, (.bin .lss .none (.t 11) (.t 13))⟩] false) (.cond (.t 14) .skip (.exit 0))) (.seq [1, 5, 6] (.block 1 (.region [⟨(some 17), none, (.mv (.t 5))⟩,
    ⟨(some 18), none, (.mv (.t 1))⟩,
    ⟨(some 19), none, (.mv (.t 6))⟩,
    ⟨(some 20), none, (.iaddr 3 none (.t 18) (.t 19))⟩,
    ⟨(some 21), none, (.faddr 0 (.t 20))⟩,
    ⟨(some 22), none, (.load none (.t 21))⟩,
    ⟨(some 23), none, (.call (.c (.fn 15 [])) [(.t 17), (.t 22)])⟩,
    ⟨(some 24), none, (.mv (.t 1))⟩,
    ⟨(some 25), none, (.mv (.t 6))⟩,
    ⟨(some 26), none, (.iaddr 3 none (.t 24) (.t 25))⟩,
    ⟨(some 27), none, (.faddr 1 (.t 26))⟩,
    ⟨(some 28), none, (.load none (.t 27))⟩,
    ⟨(some 29), none, (.call (.c (.fn 15 [])) [(.t 23), (.t 28)])⟩,
    ⟨(some 30), none, (.mv (.t 1))⟩,
    ⟨(some 31), none, (.mv (.t 6))⟩,
    ⟨(some 32), none, (.iaddr 3 none (.t 30) (.t 31))⟩,
    ⟨(some 33), none, (.faddr 2 (.t 32))⟩,
    ⟨(some 34), none, (.load none (.t 33))⟩,
    ⟨(some 35), none, (.call (.c (.fn 22 [])) [(.t 29), (.t 34)])⟩,
    ⟨(some 5), none, (.mv (.t 35))⟩] true)) (.region [⟨(some 15), none, (.mv (.t 6))⟩,
    ⟨(some 16), none, (.bin .add .none (.t 15) (.c (.v (.int .i64 1))))⟩,
    ⟨(some 6), none, (.mv (.t 16))⟩] false)))
def s26 : SFn := 
  ⟨.keep, 2, [(.tmp 4)], (.seq [0, 1] (.region [⟨(some 4), none, (.mv (.c (.v (.slice none 0 0))))⟩] false) (.seq [1, 5] (.region [⟨(some 7), none, (.mv (.t 0))⟩,
    ⟨(some 8), none, (.mv (.t 1))⟩,
    ⟨(some 9), none, (.len (.t 8))⟩,
    ⟨(some 10), none, (.call (.c (.fn 15 [])) [(.t 7), (.t 9)])⟩,
    ⟨(some 5), none, (.mv (.t 10))⟩] false) (.seq [5] (.seq [1, 5, 6] (.region [⟨(some 6), none, (.mv (.c (.v (.int .i64 0))))⟩] false) (.block 0 (.loop [1, 5, 6] s26b0))) (.seq [4] (.region [⟨(some 36), none, (.mv (.t 5))⟩,
    ⟨(some 4), none, (.mv (.t 36))⟩] false) .ret))))⟩
/- slices.Clone[[]byte,byte] -/
def s27 : SFn := 
  ⟨.keep, 1, [(.tmp 2)], (.seq [0] (.region [⟨(some 2), none, (.mv (.c (.v (.slice none 0 0))))⟩] false) (.seq [0] (.seq [0, 4] (.region [⟨(some 3), none, (.mv (.t 0))⟩,
    ⟨(some 4), none, (.bin .eql .nilS (.t 3) (.c (.v (.slice none 0 0))))⟩] false) (.cond (.t 4) (.seq [2] (.region [⟨(some 2), none, (.mv (.c (.v (.slice none 0 0))))⟩] false) .ret) .skip)) (.seq [2] (.region [⟨(some 5), none, (.bslice [(.v (.int .u8 0))] 0 [])⟩,
    ⟨(some 6), none, (.mv (.t 0))⟩,
    ⟨(some 7), none, (.append 1 1 (.t 5) (.t 6))⟩,
    ⟨(some 2), none, (.mv (.t 7))⟩] false) .ret)))⟩
/- standby/wire.Int -/
def s28 : SFn := 
  ⟨.plain, 1, [(.tmp 2), (.tmp 3), (.tmp 4)], (.seq [0] (.region [⟨(some 2), none, (.mv (.c (.v (.int .i64 0))))⟩,
    ⟨(some 3), none, (.mv (.c (.v (.slice none 0 0))))⟩,
    ⟨(some 4), none, (.mv (.c (.v (.int .i64 0))))⟩] false) (.seq [2, 3, 4] (.region [⟨(some 5), none, (.mv (.t 0))⟩,
    ⟨(some 6), none, (.call (.c (.fn 60 [])) [(.t 5), (.c (.fn 61 []))])⟩,
    ⟨(some 7), none, (.extract (.t 6) 0)⟩,
    ⟨(some 8), none, (.extract (.t 6) 1)⟩,
    ⟨(some 9), none, (.extract (.t 6) 2)⟩,
    ⟨(some 2), none, (.mv (.t 7))⟩,
    ⟨(some 3), none, (.mv (.t 8))⟩,
    ⟨(some 4), none, (.mv (.t 9))⟩] false) .ret))⟩
/- standby/wire.Writes -/
def s29 : SFn := 
  ⟨.plain, 1, [(.tmp 2), (.tmp 3), (.tmp 4)], (.seq [0] (.region [⟨(some 2), none, (.mv (.c (.v (.slice none 0 0))))⟩,
    ⟨(some 3), none, (.mv (.c (.v (.slice none 0 0))))⟩,
    ⟨(some 4), none, (.mv (.c (.v (.int .i64 0))))⟩] false) (.seq [2, 3, 4] (.region [⟨(some 5), none, (.mv (.t 0))⟩,
    ⟨(some 6), none, (.call (.c (.fn 62 [])) [(.t 5), (.c (.fn 63 []))])⟩,
    ⟨(some 7), none, (.extract (.t 6) 0)⟩,
    ⟨(some 8), none, (.extract (.t 6) 1)⟩,
    ⟨(some 9), none, (.extract (.t 6) 2)⟩,
    ⟨(some 2), none, (.mv (.t 7))⟩,
    ⟨(some 3), none, (.mv (.t 8))⟩,
    ⟨(some 4), none, (.mv (.t 9))⟩] false) .ret))⟩
/- standby/wire.Sectors -/
def s30 : SFn := 
  ⟨.plain, 1, [(.tmp 2), (.tmp 3), (.tmp 4)], (.seq [0] (.region [⟨(some 2), none, (.mv (.c (.v (.slice none 0 0))))⟩,
    ⟨(some 3), none, (.mv (.c (.v (.slice none 0 0))))⟩,
    ⟨(some 4), none, (.mv (.c (.v (.int .i64 0))))⟩] false) (.seq [2, 3, 4] (.region [⟨(some 5), none, (.mv (.t 0))⟩,
    ⟨(some 6), none, (.call (.c (.fn 66 [])) [(.t 5), (.c (.fn 67 []))])⟩,
    ⟨(some 7), none, (.extract (.t 6) 0)⟩,
    ⟨(some 8), none, (.extract (.t 6) 1)⟩,
    ⟨(some 9), none, (.extract (.t 6) 2)⟩,
    ⟨(some 2), none, (.mv (.t 7))⟩,
    ⟨(some 3), none, (.mv (.t 8))⟩,
    ⟨(some 4), none, (.mv (.t 9))⟩] false) .ret))⟩
/- standby/wire.Ints -/
def s31 : SFn := 
  ⟨.plain, 1, [(.tmp 2), (.tmp 3), (.tmp 4)], (.seq [0] (.region [⟨(some 2), none, (.mv (.c (.v (.slice none 0 0))))⟩,
    ⟨(some 3), none, (.mv (.c (.v (.slice none 0 0))))⟩,
    ⟨(some 4), none, (.mv (.c (.v (.int .i64 0))))⟩] false) (.seq [2, 3, 4] (.region [⟨(some 5), none, (.mv (.t 0))⟩,
    ⟨(some 6), none, (.call (.c (.fn 68 [])) [(.t 5), (.c (.fn 69 []))])⟩,
    ⟨(some 7), none, (.extract (.t 6) 0)⟩,
    ⟨(some 8), none, (.extract (.t 6) 1)⟩,
    ⟨(some 9), none, (.extract (.t 6) 2)⟩,
    ⟨(some 2), none, (.mv (.t 7))⟩,
    ⟨(some 3), none, (.mv (.t 8))⟩,
    ⟨(some 4), none, (.mv (.t 9))⟩] false) .ret))⟩
/- standby/standbylaw03.again -/
def s32 : SFn := 
  ⟨.plain, 3, [(.tmp 6)], (.seq [0, 1, 2] (.region [⟨(some 6), none, (.mv (.c (.v (.bool false))))⟩] false) (.seq [6] (.region [⟨(some 7), none, (.mv (.t 0))⟩,
    ⟨(some 8), none, (.mv (.t 1))⟩,
    ⟨(some 9), none, (.call (.c (.fn 27 [])) [(.t 8)])⟩,
    ⟨(some 10), none, (.mv (.t 2))⟩,
    ⟨(some 11), none, (.append 1 1 (.t 9) (.t 10))⟩,
    ⟨(some 12), none, (.call (.c (.fn 12 [])) [(.t 7), (.t 11)])⟩,
    ⟨(some 6), none, (.mv (.t 12))⟩] false) .ret))⟩
/- standby/wire.Bytes -/
def s33 : SFn := 
  ⟨.plain, 1, [(.tmp 2), (.tmp 3), (.tmp 4)], (.seq [0] (.region [⟨(some 2), none, (.mv (.c (.v (.slice none 0 0))))⟩,
    ⟨(some 3), none, (.mv (.c (.v (.slice none 0 0))))⟩,
    ⟨(some 4), none, (.mv (.c (.v (.int .i64 0))))⟩] false) (.seq [2, 3, 4] (.region [⟨(some 5), none, (.mv (.t 0))⟩,
    ⟨(some 6), none, (.call (.c (.fn 71 [])) [(.t 5), (.c (.fn 72 []))])⟩,
    ⟨(some 7), none, (.extract (.t 6) 0)⟩,
    ⟨(some 8), none, (.extract (.t 6) 1)⟩,
    ⟨(some 9), none, (.extract (.t 6) 2)⟩,
    ⟨(some 2), none, (.mv (.t 7))⟩,
    ⟨(some 3), none, (.mv (.t 8))⟩,
    ⟨(some 4), none, (.mv (.t 9))⟩] false) .ret))⟩
/- standby/wire.Extents -/
def s34 : SFn := 
  ⟨.plain, 1, [(.tmp 2), (.tmp 3), (.tmp 4)], (.seq [0] (.region [⟨(some 2), none, (.mv (.c (.v (.slice none 0 0))))⟩,
    ⟨(some 3), none, (.mv (.c (.v (.slice none 0 0))))⟩,
    ⟨(some 4), none, (.mv (.c (.v (.int .i64 0))))⟩] false) (.seq [2, 3, 4] (.region [⟨(some 5), none, (.mv (.t 0))⟩,
    ⟨(some 6), none, (.call (.c (.fn 73 [])) [(.t 5), (.c (.fn 74 []))])⟩,
    ⟨(some 7), none, (.extract (.t 6) 0)⟩,
    ⟨(some 8), none, (.extract (.t 6) 1)⟩,
    ⟨(some 9), none, (.extract (.t 6) 2)⟩,
    ⟨(some 2), none, (.mv (.t 7))⟩,
    ⟨(some 3), none, (.mv (.t 8))⟩,
    ⟨(some 4), none, (.mv (.t 9))⟩] false) .ret))⟩
/- standby/standbyref03.Int -/
def s35 : SFn := 
  ⟨.plain, 1, [(.tmp 2), (.tmp 3), (.tmp 4)], (.seq [0] (.region [⟨(some 2), none, (.mv (.c (.v (.int .i64 0))))⟩,
    ⟨(some 3), none, (.mv (.c (.v (.slice none 0 0))))⟩,
    ⟨(some 4), none, (.mv (.c (.v (.int .i64 0))))⟩] false) (.seq [0, 5, 6, 7] (.region [⟨(some 9), none, (.mv (.t 0))⟩,
    ⟨(some 10), none, (.call (.c (.fn 77 [])) [(.t 9)])⟩,
    ⟨(some 8), none, (.mv (.t 10))⟩,
    ⟨(some 11), none, (.extract (.t 8) 0)⟩,
    ⟨(some 12), none, (.extract (.t 8) 1)⟩,
    ⟨(some 13), none, (.extract (.t 8) 2)⟩,
    ⟨(some 5), none, (.mv (.t 11))⟩,
    ⟨(some 6), none, (.mv (.t 12))⟩,
    ⟨(some 7), none, (.mv (.t 13))⟩] false) (.seq [0, 5, 6] (.seq [0, 5, 6, 7, 15] (.region [⟨(some 14), none, (.mv (.t 7))⟩,
    ⟨(some 15), none, (.bin .neq .none (.t 14) (.c (.v (.int .i64 0))))⟩] false) (.cond (.t 15) (.seq [2, 3, 4] (.region [⟨(some 16), none, (.mv (.t 7))⟩,
    ⟨(some 2), none, (.mv (.c (.v (.int .i64 0))))⟩,
    ⟨(some 3), none, (.mv (.c (.v (.slice none 0 0))))⟩,
    ⟨(some 4), none, (.mv (.t 16))⟩] false) .ret) .skip)) (.seq [2, 3, 4] (.region [⟨(some 17), none, (.mv (.t 5))⟩,
    ⟨(some 18), none, (.mv (.t 0))⟩,
    ⟨(some 19), none, (.mv (.t 6))⟩,
    ⟨(some 20), none, (.call (.c (.fn 78 [])) [(.t 18), (.t 19)])⟩,
    ⟨(some 2), none, (.mv (.t 17))⟩,
    ⟨(some 3), none, (.mv (.t 20))⟩,
    ⟨(some 4), none, (.mv (.c (.v (.int .i64 0))))⟩] false) .ret))))⟩
/- standby/standbyref03.Bytes -/
def s36 : SFn := 
  ⟨.plain, 1, [(.tmp 2), (.tmp 3), (.tmp 4)], (.seq [0] (.region [⟨(some 2), none, (.mv (.c (.v (.slice none 0 0))))⟩,
    ⟨(some 3), none, (.mv (.c (.v (.slice none 0 0))))⟩,
    ⟨(some 4), none, (.mv (.c (.v (.int .i64 0))))⟩] false) (.seq [0, 5, 6] (.region [⟨(some 9), none, (.mv (.t 0))⟩,
    ⟨(some 10), none, (.call (.c (.fn 79 [])) [(.t 9)])⟩,
    ⟨(some 8), none, (.mv (.t 10))⟩,
    ⟨(some 11), none, (.extract (.t 8) 0)⟩,
    ⟨(some 12), none, (.extract (.t 8) 1)⟩,
    ⟨(some 13), none, (.extract (.t 8) 2)⟩,
    ⟨(some 5), none, (.mv (.t 11))⟩,
    ⟨(some 0), none, (.mv (.t 12))⟩,
    ⟨(some 6), none, (.mv (.t 13))⟩] false) (.seq [0, 5] (.seq [0, 5, 6, 15] (.region [⟨(some 14), none, (.mv (.t 6))⟩,
    ⟨(some 15), none, (.bin .neq .none (.t 14) (.c (.v (.int .i64 0))))⟩] false) (.cond (.t 15) (.seq [2, 3, 4] (.region [⟨(some 16), none, (.mv (.t 6))⟩,
    ⟨(some 2), none, (.mv (.c (.v (.slice none 0 0))))⟩,
    ⟨(some 3), none, (.mv (.c (.v (.slice none 0 0))))⟩,
    ⟨(some 4), none, (.mv (.t 16))⟩] false) .ret) .skip)) (.seq [0, 5] (.seq [0, 5, 20] (.region [⟨(some 17), none, (.mv (.t 5))⟩,
    ⟨(some 18), none, (.mv (.t 0))⟩,
    ⟨(some 19), none, (.len (.t 18))⟩,
    ⟨(some 20), none, (.bin .gtr .none (.t 17) (.t 19))⟩] false) (.cond (.t 20) (.seq [2, 3, 4] (.region [⟨(some 2), none, (.mv (.c (.v (.slice none 0 0))))⟩,
    ⟨(some 3), none, (.mv (.c (.v (.slice none 0 0))))⟩,
    ⟨(some 4), none, (.mv (.c (.v (.int .i64 10))))⟩] false) .ret) .skip)) (.seq [0, 5, 7] (.region [⟨(some 7), none, (.mv (.c (.v (.slice none 0 0))))⟩] false) (.seq [2, 3, 4] (.region [⟨(some 21), none, (.mv (.t 7))⟩,
    ⟨(some 22), none, (.mv (.t 0))⟩,
    ⟨(some 23), none, (.mv (.t 5))⟩,
    ⟨(some 24), none, (.slice 1 (.t 22) none (some (.t 23)))⟩,
    ⟨(some 25), none, (.append 1 1 (.t 21) (.t 24))⟩,
    ⟨(some 26), none, (.mv (.t 0))⟩,
    ⟨(some 27), none, (.mv (.t 5))⟩,
    ⟨(some 28), none, (.call (.c (.fn 78 [])) [(.t 26), (.t 27)])⟩,
    ⟨(some 2), none, (.mv (.t 25))⟩,
    ⟨(some 3), none, (.mv (.t 28))⟩,
    ⟨(some 4), none, (.mv (.c (.v (.int .i64 0))))⟩] false) .ret))))))⟩
/- standby/standbyref03.Ints -/
def s37b0 : SCode := 
  (.seq [0, 5, 7, 8] (.seq [0, 5, 7, 8, 23] (.region [⟨(some 21), none, (.mv (.t 8))⟩,
    ⟨(some 22), none, (.mv (.t 5))⟩,
    ⟨(some 23), none, (.bin .lss .none (.t 21) (.t 22))⟩] false) (.cond (.t 23) .skip (.exit 0))) (.seq [0, 5, 7, 8] (.block 1 (.seq [5, 7, 8, 9, 10, 11] (.region [⟨(some 27), none, (.mv (.t 0))⟩,
    ⟨(some 28), none, (.call (.c (.fn 35 [])) [(.t 27)])⟩,
    ⟨(some 26), none, (.mv (.t 28))⟩,
    ⟨(some 29), none, (.extract (.t 26) 0)⟩,
    ⟨(some 30), none, (.extract (.t 26) 1)⟩,
    ⟨(some 31), none, (.extract (.t 26) 2)⟩,
    ⟨(some 9), none, (.mv (.t 29))⟩,
    ⟨(some 10), none, (.mv (.t 30))⟩,
    ⟨(some 11), none, (.mv (.t 31))⟩] false) (.seq [5, 7, 8, 9, 10] (.seq [5, 7, 8, 9, 10, 11, 33] (.region [⟨(some 32), none, (.mv (.t 11))⟩,
    ⟨(some 33), none, (.bin .neq .none (.t 32) (.c (.v (.int .i64 0))))⟩] false) (.cond (.t 33) (.seq [2, 3, 4] (.region [⟨(some 34), none, (.mv (.t 11))⟩,
    ⟨(some 2), none, (.mv (.c (.v (.slice none 0 0))))⟩,
    ⟨(some 3), none, (.mv (.c (.v (.slice none 0 0))))⟩,
    ⟨(some 4), none, (.mv (.t 34))⟩] false) .ret) .skip)) (.region [⟨(some 35), none, (.mv (.t 7))⟩,
    ⟨(some 36), none, (.mv (.t 9))⟩,
    ⟨(some 37), none, (.bslice [(.v (.int .i64 0))] 1 [(0, (1, (.t 36)))])⟩,
    ⟨(some 38), none, (.append 1 8 (.t 35) (.t 37))⟩,
    ⟨(some 39), none, (.mv (.t 10))⟩,
    ⟨(some 7), none, (.mv (.t 38))⟩,
    ⟨(some 0), none, (.mv (.t 39))⟩] false)))) (.region [⟨(some 24), none, (.mv (.t 8))⟩,
    ⟨(some 25), none, (.bin .add .none (.t 24) (.c (.v (.int .i64 1))))⟩,
    ⟨(some 8), none, (.mv (.t 25))⟩] false)))
def s37 : SFn := 
  ⟨.plain, 1, [(.tmp 2), (.tmp 3), (.tmp 4)], (.seq [0] (.region [⟨(some 2), none, (.mv (.c (.v (.slice none 0 0))))⟩,
    ⟨(some 3), none, (.mv (.c (.v (.slice none 0 0))))⟩,
    ⟨(some 4), none, (.mv (.c (.v (.int .i64 0))))⟩] false) (.seq [0, 5, 6] (.region [⟨(some 13), none, (.mv (.t 0))⟩,
    ⟨(some 14), none, (.call (.c (.fn 79 [])) [(.t 13)])⟩,
    ⟨(some 12), none, (.mv (.t 14))⟩,
    ⟨(some 15), none, (.extract (.t 12) 0)⟩,
    ⟨(some 16), none, (.extract (.t 12) 1)⟩,
    ⟨(some 17), none, (.extract (.t 12) 2)⟩,
    ⟨(some 5), none, (.mv (.t 15))⟩,
    ⟨(some 0), none, (.mv (.t 16))⟩,
    ⟨(some 6), none, (.mv (.t 17))⟩] false) (.seq [0, 5] (.seq [0, 5, 6, 19] (.region [⟨(some 18), none, (.mv (.t 6))⟩,
    ⟨(some 19), none, (.bin .neq .none (.t 18) (.c (.v (.int .i64 0))))⟩] false) (.cond (.t 19) (.seq [2, 3, 4] (.region [⟨(some 20), none, (.mv (.t 6))⟩,
    ⟨(some 2), none, (.mv (.c (.v (.slice none 0 0))))⟩,
    ⟨(some 3), none, (.mv (.c (.v (.slice none 0 0))))⟩,
    ⟨(some 4), none, (.mv (.t 20))⟩] false) .ret) .skip)) (.seq [0, 5, 7] (.region [⟨(some 7), none, (.mv (.c (.v (.slice none 0 0))))⟩] false) (.seq [0, 7] (.seq [0, 5, 7, 8] (.region [⟨(some 8), none, (.mv (.c (.v (.int .i64 0))))⟩] false) (.block 0 (.loop [0, 5, 7, 8] s37b0))) (.seq [2, 3, 4] (.region [⟨(some 40), none, (.mv (.t 7))⟩,
    ⟨(some 41), none, (.mv (.t 0))⟩,
    ⟨(some 2), none, (.mv (.t 40))⟩,
    ⟨(some 3), none, (.mv (.t 41))⟩,
    ⟨(some 4), none, (.mv (.c (.v (.int .i64 0))))⟩] false) .ret))))))⟩
/- slices.Equal[[]int,int] -/
def s38b0 : SCode := 
  (.seq [0, 1, 12, 13, 14] (.region [⟨(some 14), none, (.bin .lss .none (.t 13) (.t 12))⟩] false) (.seq [0, 1, 12, 13] (.cond (.t 14) .skip (.exit 0)) (.seq [0, 1, 12, 13] (.block 1 (.seq [0, 1, 5, 12, 13] (.region [⟨(some 15), none, (.mv (.t 13))⟩,
    ⟨(some 5), none, (.mv (.t 15))⟩] false) (.seq [0, 1, 12, 13, 24] (.region [⟨(some 16), none, (.mv (.t 0))⟩,
    ⟨(some 17), none, (.mv (.t 5))⟩,
    ⟨(some 18), none, (.iaddr 1 none (.t 16) (.t 17))⟩,
    ⟨(some 19), none, (.load none (.t 18))⟩,
    ⟨(some 20), none, (.mv (.t 1))⟩,
    ⟨(some 21), none, (.mv (.t 5))⟩,
    ⟨(some 22), none, (.iaddr 1 none (.t 20) (.t 21))⟩,
    ⟨(some 23), none, (.load none (.t 22))⟩,
    ⟨(some 24), none, (.bin .neq .none (.t 19) (.t 23))⟩] true) (.cond (.t 24) (.seq [4] (.region [⟨(some 4), none, (.mv (.c (.v (.bool false))))⟩] false) .ret) .skip)))) (.region [⟨(some 25), none, (.bin .add .none (.t 13) (.c (.v (.int .i64 1))))⟩,
    ⟨(some 13), none, (.mv (.t 25))⟩] false))))
def s38 : SFn := 
  ⟨.plain, 2, [(.tmp 4)], (.seq [0, 1] (.region [⟨(some 4), none, (.mv (.c (.v (.bool false))))⟩] false) (.seq [0, 1] (.seq [0, 1, 10] (.region [⟨(some 6), none, (.mv (.t 0))⟩,
    ⟨(some 7), none, (.len (.t 6))⟩,
    ⟨(some 8), none, (.mv (.t 1))⟩,
    ⟨(some 9), none, (.len (.t 8))⟩,
    ⟨(some 10), none, (.bin .neq .none (.t 7) (.t 9))⟩] false) (.cond (.t 10) (.seq [4] (.region [⟨(some 4), none, (.mv (.c (.v (.bool false))))⟩] false) .ret) .skip)) (.seq [] (.seq [0, 1, 12, 13] (.region [⟨(some 11), none, (.mv (.t 0))⟩,
    ⟨(some 12), none, (.len (.t 11))⟩,
    ⟨(some 13), none, (.mv (.c (.v (.int .i64 0))))⟩] false) (.block 0 (.loop [0, 1, 12, 13] s38b0))) (.seq [4] (.region [⟨(some 4), none, (.mv (.c (.v (.bool true))))⟩] false) .ret))))⟩
/- standby/standbyref03.Sectors -/
def s39b0 : SCode := 
  (.seq [0, 5, 7, 8, 9, 10] (.seq [0, 5, 7, 8, 9, 10, 29] (.region [⟨(some 28), none, (.mv (.t 10))⟩,
    ⟨(some 29), none, (.bin .lss .none (.t 28) (.c (.v (.int .i64 8))))⟩] false) (.cond (.t 29) .skip (.exit 2))) (.seq [0, 5, 7, 8, 9, 10] (.block 3 (.region [⟨(some 32), none, (.mv (.t 10))⟩,
    ⟨(some 33), none, (.mv (.t 0))⟩,
    ⟨(some 34), none, (.mv (.t 10))⟩,
    ⟨(some 35), none, (.iaddr 1 none (.t 33) (.t 34))⟩,
    ⟨(some 36), none, (.load none (.t 35))⟩,
    ⟨(some 37), none, (.iaddr 1 (some 8) (.t 9) (.t 32))⟩,
    ⟨none, none, (.store 1 (.t 37) (.t 36))⟩] false)) (.region [⟨(some 30), none, (.mv (.t 10))⟩,
    ⟨(some 31), none, (.bin .add .none (.t 30) (.c (.v (.int .i64 1))))⟩,
    ⟨(some 10), none, (.mv (.t 31))⟩] false)))
def s39b1 : SCode := 
  (.seq [0, 5, 7, 8] (.seq [0, 5, 7, 8, 22] (.region [⟨(some 20), none, (.mv (.t 8))⟩,
    ⟨(some 21), none, (.mv (.t 5))⟩,
    ⟨(some 22), none, (.bin .lss .none (.t 20) (.t 21))⟩] false) (.cond (.t 22) .skip (.exit 0))) (.seq [0, 5, 7, 8] (.block 1 (.seq [0, 5, 7, 8] (.seq [0, 5, 7, 8, 27] (.region [⟨(some 25), none, (.mv (.t 0))⟩,
    ⟨(some 26), none, (.len (.t 25))⟩,
    ⟨(some 27), none, (.bin .lss .none (.t 26) (.c (.v (.int .i64 8))))⟩] false) (.cond (.t 27) (.seq [2, 3, 4] (.region [⟨(some 2), none, (.mv (.c (.v (.slice none 0 0))))⟩,
    ⟨(some 3), none, (.mv (.c (.v (.slice none 0 0))))⟩,
    ⟨(some 4), none, (.mv (.c (.v (.int .i64 10))))⟩] false) .ret) .skip)) (.seq [0, 5, 7, 8, 9] (.region [⟨(some 9), none, (.alloc [(.v (.int .u8 0)), (.v (.int .u8 0)), (.v (.int .u8 0)), (.v (.int .u8 0)), (.v (.int .u8 0)), (.v (.int .u8 0)), (.v (.int .u8 0)), (.v (.int .u8 0))])⟩] false) (.seq [0, 5, 7, 8, 9] (.seq [0, 5, 7, 8, 9, 10] (.region [⟨(some 10), none, (.mv (.c (.v (.int .i64 0))))⟩] false) (.block 2 (.loop [0, 5, 7, 8, 9, 10] s39b0))) (.region [⟨(some 38), none, (.mv (.t 7))⟩,
    ⟨(some 39), none, (.load (some 8) (.t 9))⟩,
    ⟨(some 40), none, (.bslice [(.v (.int .u8 0)), (.v (.int .u8 0)), (.v (.int .u8 0)), (.v (.int .u8 0)), (.v (.int .u8 0)), (.v (.int .u8 0)), (.v (.int .u8 0)), (.v (.int .u8 0))] 1 [(0, (8, (.t 39)))])⟩,
    ⟨(some 41), none, (.append 8 8 (.t 38) (.t 40))⟩,
    ⟨(some 42), none, (.mv (.t 0))⟩,
    ⟨(some 43), none, (.call (.c (.fn 78 [])) [(.t 42), (.c (.v (.int .i64 8)))])⟩,
    ⟨(some 7), none, (.mv (.t 41))⟩,
    ⟨(some 0), none, (.mv (.t 43))⟩] false))))) (.region [⟨(some 23), none, (.mv (.t 8))⟩,
    ⟨(some 24), none, (.bin .add .none (.t 23) (.c (.v (.int .i64 1))))⟩,
    ⟨(some 8), none, (.mv (.t 24))⟩] false)))
def s39 : SFn := 
  ⟨.plain, 1, [(.tmp 2), (.tmp 3), (.tmp 4)], (.seq [0] (.region [⟨(some 2), none, (.mv (.c (.v (.slice none 0 0))))⟩,
    ⟨(some 3), none, (.mv (.c (.v (.slice none 0 0))))⟩,
    ⟨(some 4), none, (.mv (.c (.v (.int .i64 0))))⟩] false) (.seq [0, 5, 6] (.region [⟨(some 12), none, (.mv (.t 0))⟩,
    ⟨(some 13), none, (.call (.c (.fn 79 [])) [(.t 12)])⟩,
    ⟨(some 11), none, (.mv (.t 13))⟩,
    ⟨(some 14), none, (.extract (.t 11) 0)⟩,
    ⟨(some 15), none, (.extract (.t 11) 1)⟩,
    ⟨(some 16), none, (.extract (.t 11) 2)⟩,
    ⟨(some 5), none, (.mv (.t 14))⟩,
    ⟨(some 0), none, (.mv (.t 15))⟩,
    ⟨(some 6), none, (.mv (.t 16))⟩] false) (.seq [0, 5] (.seq [0, 5, 6, 18] (.region [⟨(some 17), none, (.mv (.t 6))⟩,
    ⟨(some 18), none, (.bin .neq .none (.t 17) (.c (.v (.int .i64 0))))⟩] false) (.cond (.t 18) (.seq [2, 3, 4] (.region [⟨(some 19), none, (.mv (.t 6))⟩,
    ⟨(some 2), none, (.mv (.c (.v (.slice none 0 0))))⟩,
    ⟨(some 3), none, (.mv (.c (.v (.slice none 0 0))))⟩,
    ⟨(some 4), none, (.mv (.t 19))⟩] false) .ret) .skip)) (.seq [0, 5, 7] (.region [⟨(some 7), none, (.mv (.c (.v (.slice none 0 0))))⟩] false) (.seq [0, 7] (.seq [0, 5, 7, 8] (.region [⟨(some 8), none, (.mv (.c (.v (.int .i64 0))))⟩] false) (.block 0 (.loop [0, 5, 7, 8] s39b1))) (.seq [2, 3, 4] (.region [⟨(some 44), none, (.mv (.t 7))⟩,
    ⟨(some 45), none, (.mv (.t 0))⟩,
    ⟨(some 2), none, (.mv (.t 44))⟩,
    ⟨(some 3), none, (.mv (.t 45))⟩,
    ⟨(some 4), none, (.mv (.c (.v (.int .i64 0))))⟩] false) .ret))))))⟩
/- slices.Equal[[]standby/api.Sector,standby/api.Sector] -/
def s40b0 : SCode := 
  (.seq [0, 1, 12, 13, 14] (.region [⟨(some 14), none, (.bin .lss .none (.t 13) (.t 12))⟩] false) (.seq [0, 1, 12, 13] (.cond (.t 14) .skip (.exit 0)) (.seq [0, 1, 12, 13] (.block 1 (.seq [0, 1, 5, 12, 13] (.region [⟨(some 15), none, (.mv (.t 13))⟩,
    ⟨(some 5), none, (.mv (.t 15))⟩] false) (.seq [0, 1, 12, 13, 24] (.region [⟨(some 16), none, (.mv (.t 0))⟩,
    ⟨(some 17), none, (.mv (.t 5))⟩,
    ⟨(some 18), none, (.iaddr 8 none (.t 16) (.t 17))⟩,
    ⟨(some 19), none, (.load (some 8) (.t 18))⟩,
    ⟨(some 20), none, (.mv (.t 1))⟩,
    ⟨(some 21), none, (.mv (.t 5))⟩,
    ⟨(some 22), none, (.iaddr 8 none (.t 20) (.t 21))⟩,
    ⟨(some 23), none, (.load (some 8) (.t 22))⟩,
    ⟨(some 24), none, (.bin .neq (.cells 8) (.t 19) (.t 23))⟩] true) (.cond (.t 24) (.seq [4] (.region [⟨(some 4), none, (.mv (.c (.v (.bool false))))⟩] false) .ret) .skip)))) (.region [⟨(some 25), none, (.bin .add .none (.t 13) (.c (.v (.int .i64 1))))⟩,
    ⟨(some 13), none, (.mv (.t 25))⟩] false))))
def s40 : SFn := 
  ⟨.plain, 2, [(.tmp 4)], (.seq [0, 1] (.region [⟨(some 4), none, (.mv (.c (.v (.bool false))))⟩] false) (.seq [0, 1] (.seq [0, 1, 10] (.region [⟨(some 6), none, (.mv (.t 0))⟩,
    ⟨(some 7), none, (.len (.t 6))⟩,
    ⟨(some 8), none, (.mv (.t 1))⟩,
    ⟨(some 9), none, (.len (.t 8))⟩,
    ⟨(some 10), none, (.bin .neq .none (.t 7) (.t 9))⟩] false) (.cond (.t 10) (.seq [4] (.region [⟨(some 4), none, (.mv (.c (.v (.bool false))))⟩] false) .ret) .skip)) (.seq [] (.seq [0, 1, 12, 13] (.region [⟨(some 11), none, (.mv (.t 0))⟩,
    ⟨(some 12), none, (.len (.t 11))⟩,
    ⟨(some 13), none, (.mv (.c (.v (.int .i64 0))))⟩] false) (.block 0 (.loop [0, 1, 12, 13] s40b0))) (.seq [4] (.region [⟨(some 4), none, (.mv (.c (.v (.bool true))))⟩] false) .ret))))⟩
/- standby/standbyref03.Extents -/
def s41b0 : SCode := 
  (.seq [0, 5, 7, 8] (.seq [0, 5, 7, 8, 24] (.region [⟨(some 22), none, (.mv (.t 8))⟩,
    ⟨(some 23), none, (.mv (.t 5))⟩,
    ⟨(some 24), none, (.bin .lss .none (.t 22) (.t 23))⟩] false) (.cond (.t 24) .skip (.exit 0))) (.seq [0, 5, 7, 8] (.block 1 (.seq [5, 7, 8, 9, 10, 11] (.region [⟨(some 28), none, (.mv (.t 0))⟩,
    ⟨(some 29), none, (.call (.c (.fn 35 [])) [(.t 28)])⟩,
    ⟨(some 27), none, (.mv (.t 29))⟩,
    ⟨(some 30), none, (.extract (.t 27) 0)⟩,
    ⟨(some 31), none, (.extract (.t 27) 1)⟩,
    ⟨(some 32), none, (.extract (.t 27) 2)⟩,
    ⟨(some 9), none, (.mv (.t 30))⟩,
    ⟨(some 10), none, (.mv (.t 31))⟩,
    ⟨(some 11), none, (.mv (.t 32))⟩] false) (.seq [5, 7, 8, 9, 10] (.seq [5, 7, 8, 9, 10, 11, 34] (.region [⟨(some 33), none, (.mv (.t 11))⟩,
    ⟨(some 34), none, (.bin .neq .none (.t 33) (.c (.v (.int .i64 0))))⟩] false) (.cond (.t 34) (.seq [2, 3, 4] (.region [⟨(some 35), none, (.mv (.t 11))⟩,
    ⟨(some 2), none, (.mv (.c (.v (.slice none 0 0))))⟩,
    ⟨(some 3), none, (.mv (.c (.v (.slice none 0 0))))⟩,
    ⟨(some 4), none, (.mv (.t 35))⟩] false) .ret) .skip)) (.seq [5, 7, 8, 9, 10, 11, 12] (.region [⟨(some 37), none, (.mv (.t 10))⟩,
    ⟨(some 38), none, (.call (.c (.fn 35 [])) [(.t 37)])⟩,
    ⟨(some 36), none, (.mv (.t 38))⟩,
    ⟨(some 39), none, (.extract (.t 36) 0)⟩,
    ⟨(some 40), none, (.extract (.t 36) 1)⟩,
    ⟨(some 41), none, (.extract (.t 36) 2)⟩,
    ⟨(some 12), none, (.mv (.t 39))⟩,
    ⟨(some 10), none, (.mv (.t 40))⟩,
    ⟨(some 11), none, (.mv (.t 41))⟩] false) (.seq [5, 7, 8, 9, 10, 12] (.seq [5, 7, 8, 9, 10, 11, 12, 43] (.region [⟨(some 42), none, (.mv (.t 11))⟩,
    ⟨(some 43), none, (.bin .neq .none (.t 42) (.c (.v (.int .i64 0))))⟩] false) (.cond (.t 43) (.seq [2, 3, 4] (.region [⟨(some 44), none, (.mv (.t 11))⟩,
    ⟨(some 2), none, (.mv (.c (.v (.slice none 0 0))))⟩,
    ⟨(some 3), none, (.mv (.c (.v (.slice none 0 0))))⟩,
    ⟨(some 4), none, (.mv (.t 44))⟩] false) .ret) .skip)) (.region [⟨(some 45), none, (.mv (.t 7))⟩,
    ⟨(some 46), none, (.mv (.t 9))⟩,
    ⟨(some 47), none, (.mv (.t 12))⟩,
    ⟨(some 48), none, (.build [(.v (.int .i64 0)), (.v (.int .i64 0))] [(0, (1, (.t 46))), (1, (1, (.t 47)))])⟩,
    ⟨(some 49), none, (.bslice [(.v (.int .i64 0)), (.v (.int .i64 0))] 1 [(0, (2, (.t 48)))])⟩,
    ⟨(some 50), none, (.append 2 16 (.t 45) (.t 49))⟩,
    ⟨(some 51), none, (.mv (.t 10))⟩,
    ⟨(some 7), none, (.mv (.t 50))⟩,
    ⟨(some 0), none, (.mv (.t 51))⟩] false)))))) (.region [⟨(some 25), none, (.mv (.t 8))⟩,
    ⟨(some 26), none, (.bin .add .none (.t 25) (.c (.v (.int .i64 1))))⟩,
    ⟨(some 8), none, (.mv (.t 26))⟩] false)))
def s41 : SFn := 
  ⟨.plain, 1, [(.tmp 2), (.tmp 3), (.tmp 4)], (.seq [0] (.region [⟨(some 2), none, (.mv (.c (.v (.slice none 0 0))))⟩,
    ⟨(some 3), none, (.mv (.c (.v (.slice none 0 0))))⟩,
    ⟨(some 4), none, (.mv (.c (.v (.int .i64 0))))⟩] false) (.seq [0, 5, 6] (.region [⟨(some 14), none, (.mv (.t 0))⟩,
    ⟨(some 15), none, (.call (.c (.fn 79 [])) [(.t 14)])⟩,
    ⟨(some 13), none, (.mv (.t 15))⟩,
    ⟨(some 16), none, (.extract (.t 13) 0)⟩,
    ⟨(some 17), none, (.extract (.t 13) 1)⟩,
    ⟨(some 18), none, (.extract (.t 13) 2)⟩,
    ⟨(some 5), none, (.mv (.t 16))⟩,
    ⟨(some 0), none, (.mv (.t 17))⟩,
    ⟨(some 6), none, (.mv (.t 18))⟩] false) (.seq [0, 5] (.seq [0, 5, 6, 20] (.region [⟨(some 19), none, (.mv (.t 6))⟩,
    ⟨(some 20), none, (.bin .neq .none (.t 19) (.c (.v (.int .i64 0))))⟩] false) (.cond (.t 20) (.seq [2, 3, 4] (.region [⟨(some 21), none, (.mv (.t 6))⟩,
    ⟨(some 2), none, (.mv (.c (.v (.slice none 0 0))))⟩,
    ⟨(some 3), none, (.mv (.c (.v (.slice none 0 0))))⟩,
    ⟨(some 4), none, (.mv (.t 21))⟩] false) .ret) .skip)) (.seq [0, 5, 7] (.region [⟨(some 7), none, (.mv (.c (.v (.slice none 0 0))))⟩] false) (.seq [0, 7] (.seq [0, 5, 7, 8] (.region [⟨(some 8), none, (.mv (.c (.v (.int .i64 0))))⟩] false) (.block 0 (.loop [0, 5, 7, 8] s41b0))) (.seq [2, 3, 4] (.region [⟨(some 52), none, (.mv (.t 7))⟩,
    ⟨(some 53), none, (.mv (.t 0))⟩,
    ⟨(some 2), none, (.mv (.t 52))⟩,
    ⟨(some 3), none, (.mv (.t 53))⟩,
    ⟨(some 4), none, (.mv (.c (.v (.int .i64 0))))⟩] false) .ret))))))⟩
/- slices.Equal[[]standby/api.Extent,standby/api.Extent] -/
def s42b0 : SCode := 
  (.seq [0, 1, 12, 13, 14] (.region [⟨(some 14), none, (.bin .lss .none (.t 13) (.t 12))⟩] false) (.seq [0, 1, 12, 13] (.cond (.t 14) .skip (.exit 0)) (.seq [0, 1, 12, 13] (.block 1 (.seq [0, 1, 5, 12, 13] (.region [⟨(some 15), none, (.mv (.t 13))⟩,
    ⟨(some 5), none, (.mv (.t 15))⟩] false) (.seq [0, 1, 12, 13, 24] (.region [⟨(some 16), none, (.mv (.t 0))⟩,
    ⟨(some 17), none, (.mv (.t 5))⟩,
    ⟨(some 18), none, (.iaddr 2 none (.t 16) (.t 17))⟩,
    ⟨(some 19), none, (.load (some 2) (.t 18))⟩,
    ⟨(some 20), none, (.mv (.t 1))⟩,
    ⟨(some 21), none, (.mv (.t 5))⟩,
    ⟨(some 22), none, (.iaddr 2 none (.t 20) (.t 21))⟩,
    ⟨(some 23), none, (.load (some 2) (.t 22))⟩,
    ⟨(some 24), none, (.bin .neq (.cells 2) (.t 19) (.t 23))⟩] true) (.cond (.t 24) (.seq [4] (.region [⟨(some 4), none, (.mv (.c (.v (.bool false))))⟩] false) .ret) .skip)))) (.region [⟨(some 25), none, (.bin .add .none (.t 13) (.c (.v (.int .i64 1))))⟩,
    ⟨(some 13), none, (.mv (.t 25))⟩] false))))
def s42 : SFn := 
  ⟨.plain, 2, [(.tmp 4)], (.seq [0, 1] (.region [⟨(some 4), none, (.mv (.c (.v (.bool false))))⟩] false) (.seq [0, 1] (.seq [0, 1, 10] (.region [⟨(some 6), none, (.mv (.t 0))⟩,
    ⟨(some 7), none, (.len (.t 6))⟩,
    ⟨(some 8), none, (.mv (.t 1))⟩,
    ⟨(some 9), none, (.len (.t 8))⟩,
    ⟨(some 10), none, (.bin .neq .none (.t 7) (.t 9))⟩] false) (.cond (.t 10) (.seq [4] (.region [⟨(some 4), none, (.mv (.c (.v (.bool false))))⟩] false) .ret) .skip)) (.seq [] (.seq [0, 1, 12, 13] (.region [⟨(some 11), none, (.mv (.t 0))⟩,
    ⟨(some 12), none, (.len (.t 11))⟩,
    ⟨(some 13), none, (.mv (.c (.v (.int .i64 0))))⟩] false) (.block 0 (.loop [0, 1, 12, 13] s42b0))) (.seq [4] (.region [⟨(some 4), none, (.mv (.c (.v (.bool true))))⟩] false) .ret))))⟩
/- standby/standbyref03.Writes -/
def s43b0 : SCode := 
  (.seq [0, 5, 7, 8] (.seq [0, 5, 7, 8, 25] (.region [⟨(some 23), none, (.mv (.t 8))⟩,
    ⟨(some 24), none, (.mv (.t 5))⟩,
    ⟨(some 25), none, (.bin .lss .none (.t 23) (.t 24))⟩] false) (.cond (.t 25) .skip (.exit 0))) (.seq [0, 5, 7, 8] (.block 1 (.seq [5, 7, 8, 9, 10, 11] (.region [⟨(some 29), none, (.mv (.t 0))⟩,
    ⟨(some 30), none, (.call (.c (.fn 35 [])) [(.t 29)])⟩,
    ⟨(some 28), none, (.mv (.t 30))⟩,
    ⟨(some 31), none, (.extract (.t 28) 0)⟩,
    ⟨(some 32), none, (.extract (.t 28) 1)⟩,
    ⟨(some 33), none, (.extract (.t 28) 2)⟩,
    ⟨(some 9), none, (.mv (.t 31))⟩,
    ⟨(some 10), none, (.mv (.t 32))⟩,
    ⟨(some 11), none, (.mv (.t 33))⟩] false) (.seq [5, 7, 8, 9, 10] (.seq [5, 7, 8, 9, 10, 11, 35] (.region [⟨(some 34), none, (.mv (.t 11))⟩,
    ⟨(some 35), none, (.bin .neq .none (.t 34) (.c (.v (.int .i64 0))))⟩] false) (.cond (.t 35) (.seq [2, 3, 4] (.region [⟨(some 36), none, (.mv (.t 11))⟩,
    ⟨(some 2), none, (.mv (.c (.v (.slice none 0 0))))⟩,
    ⟨(some 3), none, (.mv (.c (.v (.slice none 0 0))))⟩,
    ⟨(some 4), none, (.mv (.t 36))⟩] false) .ret) .skip)) (.seq [5, 7, 8, 9, 10, 11, 12] (.region [⟨(some 38), none, (.mv (.t 10))⟩,
    ⟨(some 39), none, (.call (.c (.fn 35 [])) [(.t 38)])⟩,
    ⟨(some 37), none, (.mv (.t 39))⟩,
    ⟨(some 40), none, (.extract (.t 37) 0)⟩,
    ⟨(some 41), none, (.extract (.t 37) 1)⟩,
    ⟨(some 42), none, (.extract (.t 37) 2)⟩,
    ⟨(some 12), none, (.mv (.t 40))⟩,
    ⟨(some 10), none, (.mv (.t 41))⟩,
    ⟨(some 11), none, (.mv (.t 42))⟩] false) (.seq [5, 7, 8, 9, 10, 12] (.seq [5, 7, 8, 9, 10, 11, 12, 44] (.region [⟨(some 43), none, (.mv (.t 11))⟩,
    ⟨(some 44), none, (.bin .neq .none (.t 43) (.c (.v (.int .i64 0))))⟩] false) (.cond (.t 44) (.seq [2, 3, 4] (.region [⟨(some 45), none, (.mv (.t 11))⟩,
    ⟨(some 2), none, (.mv (.c (.v (.slice none 0 0))))⟩,
    ⟨(some 3), none, (.mv (.c (.v (.slice none 0 0))))⟩,
    ⟨(some 4), none, (.mv (.t 45))⟩] false) .ret) .skip)) (.seq [5, 7, 8, 9, 10, 11, 12, 13] (.region [⟨(some 47), none, (.mv (.t 10))⟩,
    ⟨(some 48), none, (.call (.c (.fn 39 [])) [(.t 47)])⟩,
    ⟨(some 46), none, (.mv (.t 48))⟩,
    ⟨(some 49), none, (.extract (.t 46) 0)⟩,
    ⟨(some 50), none, (.extract (.t 46) 1)⟩,
    ⟨(some 51), none, (.extract (.t 46) 2)⟩,
    ⟨(some 13), none, (.mv (.t 49))⟩,
    ⟨(some 10), none, (.mv (.t 50))⟩,
    ⟨(some 11), none, (.mv (.t 51))⟩] false) (.seq [5, 7, 8, 9, 10, 12, 13] (.seq [5, 7, 8, 9, 10, 11, 12, 13, 53] (.region [⟨(some 52), none, (.mv (.t 11))⟩,
    ⟨(some 53), none, (.bin .neq .none (.t 52) (.c (.v (.int .i64 0))))⟩] false) (.cond (.t 53) (.seq [2, 3, 4] (.region [⟨(some 54), none, (.mv (.t 11))⟩,
    ⟨(some 2), none, (.mv (.c (.v (.slice none 0 0))))⟩,
    ⟨(some 3), none, (.mv (.c (.v (.slice none 0 0))))⟩,
    ⟨(some 4), none, (.mv (.t 54))⟩] false) .ret) .skip)) (.region [⟨(some 55), none, (.mv (.t 7))⟩,
    ⟨(some 56), none, (.mv (.t 9))⟩,
    ⟨(some 57), none, (.mv (.t 12))⟩,
    ⟨(some 58), none, (.mv (.t 13))⟩,
    ⟨(some 59), none, (.build [(.v (.int .i64 0)), (.v (.int .i64 0)), (.v (.slice none 0 0))] [(0, (1, (.t 56))), (1, (1, (.t 57))), (2, (1, (.t 58)))])⟩,
    ⟨(some 60), none, (.bslice [(.v (.int .i64 0)), (.v (.int .i64 0)), (.v (.slice none 0 0))] 1 [(0, (3, (.t 59)))])⟩,
    ⟨(some 61), none, (.append 3 40 (.t 55) (.t 60))⟩,
    ⟨(some 62), none, (.mv (.t 10))⟩,
    ⟨(some 7), none, (.mv (.t 61))⟩,
    ⟨(some 0), none, (.mv (.t 62))⟩] false)))))))) (.region [⟨(some 26), none, (.mv (.t 8))⟩,
    ⟨(some 27), none, (.bin .add .none (.t 26) (.c (.v (.int .i64 1))))⟩,
    ⟨(some 8), none, (.mv (.t 27))⟩] false)))
def s43 : SFn := 
  ⟨.plain, 1, [(.tmp 2), (.tmp 3), (.tmp 4)], (.seq [0] (.region [⟨(some 2), none, (.mv (.c (.v (.slice none 0 0))))⟩,
    ⟨(some 3), none, (.mv (.c (.v (.slice none 0 0))))⟩,
    ⟨(some 4), none, (.mv (.c (.v (.int .i64 0))))⟩] false) (.seq [0, 5, 6] (.region [⟨(some 15), none, (.mv (.t 0))⟩,
    ⟨(some 16), none, (.call (.c (.fn 79 [])) [(.t 15)])⟩,
    ⟨(some 14), none, (.mv (.t 16))⟩,
    ⟨(some 17), none, (.extract (.t 14) 0)⟩,
    ⟨(some 18), none, (.extract (.t 14) 1)⟩,
    ⟨(some 19), none, (.extract (.t 14) 2)⟩,
    ⟨(some 5), none, (.mv (.t 17))⟩,
    ⟨(some 0), none, (.mv (.t 18))⟩,
    ⟨(some 6), none, (.mv (.t 19))⟩] false) (.seq [0, 5] (.seq [0, 5, 6, 21] (.region [⟨(some 20), none, (.mv (.t 6))⟩,
    ⟨(some 21), none, (.bin .neq .none (.t 20) (.c (.v (.int .i64 0))))⟩] false) (.cond (.t 21) (.seq [2, 3, 4] (.region [⟨(some 22), none, (.mv (.t 6))⟩,
    ⟨(some 2), none, (.mv (.c (.v (.slice none 0 0))))⟩,
    ⟨(some 3), none, (.mv (.c (.v (.slice none 0 0))))⟩,
    ⟨(some 4), none, (.mv (.t 22))⟩] false) .ret) .skip)) (.seq [0, 5, 7] (.region [⟨(some 7), none, (.mv (.c (.v (.slice none 0 0))))⟩] false) (.seq [0, 7] (.seq [0, 5, 7, 8] (.region [⟨(some 8), none, (.mv (.c (.v (.int .i64 0))))⟩] false) (.block 0 (.loop [0, 5, 7, 8] s43b0))) (.seq [2, 3, 4] (.region [⟨(some 63), none, (.mv (.t 7))⟩,
    ⟨(some 64), none, (.mv (.t 0))⟩,
    ⟨(some 2), none, (.mv (.t 63))⟩,
    ⟨(some 3), none, (.mv (.t 64))⟩,
    ⟨(some 4), none, (.mv (.c (.v (.int .i64 0))))⟩] false) .ret))))))⟩
/- standby/standbyref03.SameWrites -/
def s44b0 : SCode := 
  (.seq [0, 1, 5] (.seq [0, 1, 5, 14] (.region [⟨(some 11), none, (.mv (.t 5))⟩,
    ⟨(some 12), none, (.mv (.t 0))⟩,
    ⟨(some 13), none, (.len (.t 12))⟩,
    ⟨(some 14), none, (.bin .lss .none (.t 11) (.t 13))⟩] false) (.cond (.t 14) .skip (.exit 0))) (.seq [0, 1, 5] (.block 1 (.seq [0, 1, 5, 54] (.region [⟨(some 17), none, (.mv (.t 0))⟩,
    ⟨(some 18), none, (.mv (.t 5))⟩,
    ⟨(some 19), none, (.iaddr 3 none (.t 17) (.t 18))⟩,
    ⟨(some 20), none, (.faddr 0 (.t 19))⟩,
    ⟨(some 21), none, (.load none (.t 20))⟩,
    ⟨(some 22), none, (.mv (.t 1))⟩,
    ⟨(some 23), none, (.mv (.t 5))⟩,
    ⟨(some 24), none, (.iaddr 3 none (.t 22) (.t 23))⟩,
    ⟨(some 25), none, (.faddr 0 (.t 24))⟩,
    ⟨(some 26), none, (.load none (.t 25))⟩,
    ⟨(some 27), none, (.bin .neq .none (.t 21) (.t 26))⟩,
    ⟨(some 28), none, (.mv (.t 27))⟩,
    ⟨(some 29), (some (28, false)), (.mv (.t 0))⟩,
    ⟨(some 30), (some (28, false)), (.mv (.t 5))⟩,
    ⟨(some 31), (some (28, false)), (.iaddr 3 none (.t 29) (.t 30))⟩,
    ⟨(some 32), (some (28, false)), (.faddr 1 (.t 31))⟩,
    ⟨(some 33), (some (28, false)), (.load none (.t 32))⟩,
    ⟨(some 34), (some (28, false)), (.mv (.t 1))⟩,
    ⟨(some 35), (some (28, false)), (.mv (.t 5))⟩,
    ⟨(some 36), (some (28, false)), (.iaddr 3 none (.t 34) (.t 35))⟩,
    ⟨(some 37), (some (28, false)), (.faddr 1 (.t 36))⟩,
    ⟨(some 38), (some (28, false)), (.load none (.t 37))⟩,
    ⟨(some 39), (some (28, false)), (.bin .neq .none (.t 33) (.t 38))⟩,
    ⟨(some 40), none, (.pick (.t 28) (.c (.v (.bool true))) (.t 39))⟩,
    ⟨(some 41), none, (.mv (.t 40))⟩,
    ⟨(some 42), (some (41, false)), (.mv (.t 0))⟩,
    ⟨(some 43), (some (41, false)), (.mv (.t 5))⟩,
    ⟨(some 44), (some (41, false)), (.iaddr 3 none (.t 42) (.t 43))⟩,
    ⟨(some 45), (some (41, false)), (.faddr 2 (.t 44))⟩,
    ⟨(some 46), (some (41, false)), (.load none (.t 45))⟩,
    ⟨(some 47), (some (41, false)), (.mv (.t 1))⟩,
    ⟨(some 48), (some (41, false)), (.mv (.t 5))⟩,
    ⟨(some 49), (some (41, false)), (.iaddr 3 none (.t 47) (.t 48))⟩,
    ⟨(some 50), (some (41, false)), (.faddr 2 (.t 49))⟩,
    ⟨(some 51), (some (41, false)), (.load none (.t 50))⟩,
    ⟨(some 52), (some (41, false)), (.call (.c (.fn 80 [])) [(.t 46), (.t 51)])⟩,
    ⟨(some 53), (some (41, false)), (.un .not (.t 52))⟩,
    ⟨(some 54), none, (.pick (.t 41) (.c (.v (.bool true))) (.t 53))⟩] true) (.cond (.t 54) (.seq [4] (.region [⟨(some 4), none, (.mv (.c (.v (.bool false))))⟩] false) .ret) .skip))) (.region [⟨(some 15), none, (.mv (.t 5))⟩,
    ⟨(some 16), none, (.bin .add .none (.t 15) (.c (.v (.int .i64 1))))⟩,
    ⟨(some 5), none, (.mv (.t 16))⟩] false)))
def s44 : SFn := 
  ⟨.plain, 2, [(.tmp 4)], (.seq [0, 1] (.region [⟨(some 4), none, (.mv (.c (.v (.bool false))))⟩] false) (.seq [0, 1] (.seq [0, 1, 10] (.region [⟨(some 6), none, (.mv (.t 0))⟩,
    ⟨(some 7), none, (.len (.t 6))⟩,
    ⟨(some 8), none, (.mv (.t 1))⟩,
    ⟨(some 9), none, (.len (.t 8))⟩,
    ⟨(some 10), none, (.bin .neq .none (.t 7) (.t 9))⟩] false) (.cond (.t 10) (.seq [4] (.region [⟨(some 4), none, (.mv (.c (.v (.bool false))))⟩] false) .ret) .skip)) (.seq [] (.seq [0, 1, 5] (.region [⟨(some 5), none, (.mv (.c (.v (.int .i64 0))))⟩] false) (.block 0 (.loop [0, 1, 5] s44b0))) (.seq [4] (.region [⟨(some 4), none, (.mv (.c (.v (.bool true))))⟩] false) .ret))))⟩
/- slices.ContainsFunc[[]int,int] -/
def s45 : SFn := 
  ⟨.plain, 2, [(.tmp 4)], (.seq [0, 1] (.region [⟨(some 4), none, (.mv (.c (.v (.bool false))))⟩] false) (.seq [4] (.region [⟨(some 5), none, (.mv (.t 0))⟩,
    ⟨(some 6), none, (.mv (.t 1))⟩,
    ⟨(some 7), none, (.call (.c (.fn 81 [])) [(.t 5), (.t 6)])⟩,
    ⟨(some 8), none, (.bin .geq .none (.t 7) (.c (.v (.int .i64 0))))⟩,
    ⟨(some 4), none, (.mv (.t 8))⟩] false) .ret))⟩
/- standby/standbylaw03.WireBack$1 -/
def s46 : SFn := 
  ⟨.plain, 1, [(.tmp 2)], (.seq [0] (.region [⟨(some 2), none, (.mv (.c (.v (.bool false))))⟩] false) (.seq [2] (.region [⟨(some 3), none, (.mv (.t 0))⟩,
    ⟨(some 4), none, (.call (.c (.fn 11 [])) [(.t 3)])⟩,
    ⟨(some 5), none, (.un .not (.t 4))⟩,
    ⟨(some 2), none, (.mv (.t 5))⟩] false) .ret))⟩
/- slices.ContainsFunc[[]standby/api.Extent,standby/api.Extent] -/
def s47 : SFn := 
  ⟨.plain, 2, [(.tmp 4)], (.seq [0, 1] (.region [⟨(some 4), none, (.mv (.c (.v (.bool false))))⟩] false) (.seq [4] (.region [⟨(some 5), none, (.mv (.t 0))⟩,
    ⟨(some 6), none, (.mv (.t 1))⟩,
    ⟨(some 7), none, (.call (.c (.fn 82 [])) [(.t 5), (.t 6)])⟩,
    ⟨(some 8), none, (.bin .geq .none (.t 7) (.c (.v (.int .i64 0))))⟩,
    ⟨(some 4), none, (.mv (.t 8))⟩] false) .ret))⟩
/- standby/standbylaw03.WireBack$2 -/
def s48 : SFn := 
  ⟨.plain, 1, [(.tmp 2)], (.seq [1] (.region [⟨(some 1), none, (.box (.t 0))⟩,
    ⟨(some 2), none, (.mv (.c (.v (.bool false))))⟩] false) (.seq [2] (.region [⟨(some 3), none, (.faddr 0 (.t 1))⟩,
    ⟨(some 4), none, (.load none (.t 3))⟩,
    ⟨(some 5), none, (.call (.c (.fn 11 [])) [(.t 4)])⟩,
    ⟨(some 6), none, (.un .not (.t 5))⟩,
    ⟨(some 7), none, (.mv (.t 6))⟩,
    ⟨(some 8), (some (7, false)), (.faddr 1 (.t 1))⟩,
    ⟨(some 9), (some (7, false)), (.load none (.t 8))⟩,
    ⟨(some 10), (some (7, false)), (.call (.c (.fn 11 [])) [(.t 9)])⟩,
    ⟨(some 11), (some (7, false)), (.un .not (.t 10))⟩,
    ⟨(some 12), none, (.pick (.t 7) (.c (.v (.bool true))) (.t 11))⟩,
    ⟨(some 2), none, (.mv (.t 12))⟩] false) .ret))⟩
/- slices.ContainsFunc[[]standby/api.Write,standby/api.Write] -/
def s49 : SFn := 
  ⟨.plain, 2, [(.tmp 4)], (.seq [0, 1] (.region [⟨(some 4), none, (.mv (.c (.v (.bool false))))⟩] false) (.seq [4] (.region [⟨(some 5), none, (.mv (.t 0))⟩,
    ⟨(some 6), none, (.mv (.t 1))⟩,
    ⟨(some 7), none, (.call (.c (.fn 83 [])) [(.t 5), (.t 6)])⟩,
    ⟨(some 8), none, (.bin .geq .none (.t 7) (.c (.v (.int .i64 0))))⟩,
    ⟨(some 4), none, (.mv (.t 8))⟩] false) .ret))⟩
/- standby/standbylaw03.WireBack$3 -/
def s50 : SFn := 
  ⟨.plain, 1, [(.tmp 2)], (.seq [1] (.region [⟨(some 1), none, (.box (.t 0))⟩,
    ⟨(some 2), none, (.mv (.c (.v (.bool false))))⟩] false) (.seq [2] (.region [⟨(some 3), none, (.faddr 0 (.t 1))⟩,
    ⟨(some 4), none, (.load none (.t 3))⟩,
    ⟨(some 5), none, (.call (.c (.fn 11 [])) [(.t 4)])⟩,
    ⟨(some 6), none, (.un .not (.t 5))⟩,
    ⟨(some 7), none, (.mv (.t 6))⟩,
    ⟨(some 8), (some (7, false)), (.faddr 1 (.t 1))⟩,
    ⟨(some 9), (some (7, false)), (.load none (.t 8))⟩,
    ⟨(some 10), (some (7, false)), (.call (.c (.fn 11 [])) [(.t 9)])⟩,
    ⟨(some 11), (some (7, false)), (.un .not (.t 10))⟩,
    ⟨(some 12), none, (.pick (.t 7) (.c (.v (.bool true))) (.t 11))⟩,
    ⟨(some 2), none, (.mv (.t 12))⟩] false) .ret))⟩
/- standby/wire.putInt -/
def s51b0 : SCode := 
  (.seq [0, 1] (.seq [0, 1, 12] (.region [⟨(some 11), none, (.mv (.t 1))⟩,
    ⟨(some 12), none, (.bin .geq .none (.t 11) (.c (.v (.int .i64 128))))⟩] false) (.cond (.t 12) .skip (.exit 0))) (.seq [0, 1] (.block 1 (.region [⟨(some 15), none, (.mv (.t 0))⟩,
    ⟨(some 16), none, (.mv (.t 1))⟩,
    ⟨(some 17), none, (.bin .rem .none (.t 16) (.c (.v (.int .i64 128))))⟩,
    ⟨(some 18), none, (.conv .u8 (.t 17))⟩,
    ⟨(some 19), none, (.bin .or .none (.t 18) (.c (.v (.int .u8 128))))⟩,
    ⟨(some 20), none, (.bslice [(.v (.int .u8 0))] 1 [(0, (1, (.t 19)))])⟩,
    ⟨(some 21), none, (.append 1 1 (.t 15) (.t 20))⟩,
    ⟨(some 0), none, (.mv (.t 21))⟩] false)) (.region [⟨(some 13), none, (.mv (.t 1))⟩,
    ⟨(some 14), none, (.bin .quo .none (.t 13) (.c (.v (.int .i64 128))))⟩,
    ⟨(some 1), none, (.mv (.t 14))⟩] false)))
def s51 : SFn := 
  ⟨.grow, 2, [(.tmp 4)], (.seq [0, 1] (.region [⟨(some 4), none, (.mv (.c (.v (.slice none 0 0))))⟩] false) (.seq [0, 1] (.seq [0, 1, 10] (.region [⟨(some 5), none, (.mv (.t 1))⟩,
    ⟨(some 6), none, (.bin .lss .none (.t 5) (.c (.v (.int .i64 0))))⟩,
    ⟨(some 7), none, (.mv (.t 6))⟩,
    ⟨(some 8), (some (7, false)), (.mv (.t 1))⟩,
    ⟨(some 9), (some (7, false)), (.bin .gtr .none (.t 8) (.c (.v (.int .i64 9007199254740991))))⟩,
    ⟨(some 10), none, (.pick (.t 7) (.c (.v (.bool true))) (.t 9))⟩] false) (.cond (.t 10) (.region [⟨(some 1), none, (.mv (.c (.v (.int .i64 0))))⟩] false) .skip)) (.seq [0, 1] (.block 0 (.loop [0, 1] s51b0)) (.seq [4] (.region [⟨(some 22), none, (.mv (.t 0))⟩,
    ⟨(some 23), none, (.mv (.t 1))⟩,
    ⟨(some 24), none, (.conv .u8 (.t 23))⟩,
    ⟨(some 25), none, (.bslice [(.v (.int .u8 0))] 1 [(0, (1, (.t 24)))])⟩,
    ⟨(some 26), none, (.append 1 1 (.t 22) (.t 25))⟩,
    ⟨(some 4), none, (.mv (.t 26))⟩] false) .ret))))⟩
/- standby/wire.put[int] -/
def s52b0 : SCode := 
  (.seq [0, 2, 13, 14, 15, 16] (.region [⟨(some 16), none, (.bin .lss .none (.t 15) (.t 14))⟩] false) (.seq [0, 2, 13, 14, 15] (.cond (.t 16) .skip (.exit 0)) (.seq [0, 2, 13, 14, 15] (.block 1 (.seq [0, 2, 8, 13, 14, 15] (.region [⟨(some 17), none, (.iaddr 1 none (.t 13) (.t 15))⟩,
    ⟨(some 18), none, (.load none (.t 17))⟩,
    ⟨(some 8), none, (.mv (.t 18))⟩] false) (.region [⟨(some 19), none, (.mv (.t 2))⟩,
    ⟨(some 20), none, (.mv (.t 0))⟩,
    ⟨(some 21), none, (.mv (.t 8))⟩,
    ⟨(some 22), none, (.call (.t 19) [(.t 20), (.t 21)])⟩,
    ⟨(some 0), none, (.mv (.t 22))⟩] false))) (.region [⟨(some 23), none, (.bin .add .none (.t 15) (.c (.v (.int .i64 1))))⟩,
    ⟨(some 15), none, (.mv (.t 23))⟩] false))))
def s52 : SFn := 
  ⟨.whole, 3, [(.tmp 6)], (.seq [0, 1, 2] (.region [⟨(some 6), none, (.mv (.c (.v (.slice none 0 0))))⟩] false) (.seq [0, 1, 2] (.region [⟨(some 9), none, (.mv (.t 0))⟩,
    ⟨(some 10), none, (.mv (.t 1))⟩,
    ⟨(some 11), none, (.len (.t 10))⟩,
    ⟨(some 12), none, (.call (.c (.fn 51 [])) [(.t 9), (.t 11)])⟩,
    ⟨(some 0), none, (.mv (.t 12))⟩] false) (.seq [0] (.seq [0, 2, 13, 14, 15] (.region [⟨(some 13), none, (.mv (.t 1))⟩,
    ⟨(some 14), none, (.len (.t 13))⟩,
    ⟨(some 15), none, (.mv (.c (.v (.int .i64 0))))⟩] false) (.block 0 (.loop [0, 2, 13, 14, 15] s52b0))) (.seq [6] (.region [⟨(some 24), none, (.mv (.t 0))⟩,
    ⟨(some 6), none, (.mv (.t 24))⟩] false) .ret))))⟩
/- (standby/standbylaw03.Values).few$1 -/
def s53 : SFn := 
  ⟨.plain, 1, [(.tmp 2)], (.seq [1] (.region [⟨(some 1), none, (.box (.t 0))⟩,
    ⟨(some 2), none, (.mv (.c (.v (.bool false))))⟩] false) (.seq [2] (.region [⟨(some 3), none, (.faddr 2 (.t 1))⟩,
    ⟨(some 4), none, (.load none (.t 3))⟩,
    ⟨(some 5), none, (.len (.t 4))⟩,
    ⟨(some 6), none, (.bin .gtr .none (.t 5) (.c (.v (.int .i64 20))))⟩,
    ⟨(some 2), none, (.mv (.t 6))⟩] false) .ret))⟩
/- standby/wire.put[standby/api.Sector] -/
def s54b0 : SCode := 
  (.seq [0, 2, 13, 14, 15, 16] (.region [⟨(some 16), none, (.bin .lss .none (.t 15) (.t 14))⟩] false) (.seq [0, 2, 13, 14, 15] (.cond (.t 16) .skip (.exit 0)) (.seq [0, 2, 13, 14, 15] (.block 1 (.seq [0, 2, 8, 13, 14, 15] (.region [⟨(some 17), none, (.iaddr 8 none (.t 13) (.t 15))⟩,
    ⟨(some 18), none, (.load (some 8) (.t 17))⟩,
    ⟨(some 8), none, (.alloc [(.v (.int .u8 0)), (.v (.int .u8 0)), (.v (.int .u8 0)), (.v (.int .u8 0)), (.v (.int .u8 0)), (.v (.int .u8 0)), (.v (.int .u8 0)), (.v (.int .u8 0))])⟩,
    ⟨none, none, (.store 8 (.t 8) (.t 18))⟩] false) (.region [⟨(some 19), none, (.mv (.t 2))⟩,
    ⟨(some 20), none, (.mv (.t 0))⟩,
    ⟨(some 21), none, (.load (some 8) (.t 8))⟩,
    ⟨(some 22), none, (.call (.t 19) [(.t 20), (.t 21)])⟩,
    ⟨(some 0), none, (.mv (.t 22))⟩] false))) (.region [⟨(some 23), none, (.bin .add .none (.t 15) (.c (.v (.int .i64 1))))⟩,
    ⟨(some 15), none, (.mv (.t 23))⟩] false))))
def s54 : SFn := 
  ⟨.whole, 3, [(.tmp 6)], (.seq [0, 1, 2] (.region [⟨(some 6), none, (.mv (.c (.v (.slice none 0 0))))⟩] false) (.seq [0, 1, 2] (.region [⟨(some 9), none, (.mv (.t 0))⟩,
    ⟨(some 10), none, (.mv (.t 1))⟩,
    ⟨(some 11), none, (.len (.t 10))⟩,
    ⟨(some 12), none, (.call (.c (.fn 51 [])) [(.t 9), (.t 11)])⟩,
    ⟨(some 0), none, (.mv (.t 12))⟩] false) (.seq [0] (.seq [0, 2, 13, 14, 15] (.region [⟨(some 13), none, (.mv (.t 1))⟩,
    ⟨(some 14), none, (.len (.t 13))⟩,
    ⟨(some 15), none, (.mv (.c (.v (.int .i64 0))))⟩] false) (.block 0 (.loop [0, 2, 13, 14, 15] s54b0))) (.seq [6] (.region [⟨(some 24), none, (.mv (.t 0))⟩,
    ⟨(some 6), none, (.mv (.t 24))⟩] false) .ret))))⟩
/- standby/wire.putSector -/
def s55 : SFn := 
  ⟨.whole, 2, [(.tmp 4)], (.seq [0, 3] (.region [⟨(some 3), none, (.box (.t 1))⟩,
    ⟨(some 4), none, (.mv (.c (.v (.slice none 0 0))))⟩] false) (.seq [4] (.region [⟨(some 5), none, (.mv (.t 0))⟩,
    ⟨(some 6), none, (.arrslice 8 1 (.t 3) none none)⟩,
    ⟨(some 7), none, (.append 1 1 (.t 5) (.t 6))⟩,
    ⟨(some 4), none, (.mv (.t 7))⟩] false) .ret))⟩
/- standby/wire.put[standby/api.Extent] -/
def s56b0 : SCode := 
  (.seq [0, 2, 13, 14, 15, 16] (.region [⟨(some 16), none, (.bin .lss .none (.t 15) (.t 14))⟩] false) (.seq [0, 2, 13, 14, 15] (.cond (.t 16) .skip (.exit 0)) (.seq [0, 2, 13, 14, 15] (.block 1 (.seq [0, 2, 8, 13, 14, 15] (.region [⟨(some 17), none, (.iaddr 2 none (.t 13) (.t 15))⟩,
    ⟨(some 18), none, (.load (some 2) (.t 17))⟩,
    ⟨(some 8), none, (.alloc [(.v (.int .i64 0)), (.v (.int .i64 0))])⟩,
    ⟨none, none, (.store 2 (.t 8) (.t 18))⟩] false) (.region [⟨(some 19), none, (.mv (.t 2))⟩,
    ⟨(some 20), none, (.mv (.t 0))⟩,
    ⟨(some 21), none, (.load (some 2) (.t 8))⟩,
    ⟨(some 22), none, (.call (.t 19) [(.t 20), (.t 21)])⟩,
    ⟨(some 0), none, (.mv (.t 22))⟩] false))) (.region [⟨(some 23), none, (.bin .add .none (.t 15) (.c (.v (.int .i64 1))))⟩,
    ⟨(some 15), none, (.mv (.t 23))⟩] false))))
def s56 : SFn := 
  ⟨.whole, 3, [(.tmp 6)], (.seq [0, 1, 2] (.region [⟨(some 6), none, (.mv (.c (.v (.slice none 0 0))))⟩] false) (.seq [0, 1, 2] (.region [⟨(some 9), none, (.mv (.t 0))⟩,
    ⟨(some 10), none, (.mv (.t 1))⟩,
    ⟨(some 11), none, (.len (.t 10))⟩,
    ⟨(some 12), none, (.call (.c (.fn 51 [])) [(.t 9), (.t 11)])⟩,
    ⟨(some 0), none, (.mv (.t 12))⟩] false) (.seq [0] (.seq [0, 2, 13, 14, 15] (.region [⟨(some 13), none, (.mv (.t 1))⟩,
    ⟨(some 14), none, (.len (.t 13))⟩,
    ⟨(some 15), none, (.mv (.c (.v (.int .i64 0))))⟩] false) (.block 0 (.loop [0, 2, 13, 14, 15] s56b0))) (.seq [6] (.region [⟨(some 24), none, (.mv (.t 0))⟩,
    ⟨(some 6), none, (.mv (.t 24))⟩] false) .ret))))⟩
/- standby/wire.putExtent -/
def s57 : SFn := 
  ⟨.whole, 2, [(.tmp 4)], (.seq [0, 3] (.region [⟨(some 3), none, (.box (.t 1))⟩,
    ⟨(some 4), none, (.mv (.c (.v (.slice none 0 0))))⟩] false) (.seq [4] (.region [⟨(some 5), none, (.mv (.t 0))⟩,
    ⟨(some 6), none, (.faddr 0 (.t 3))⟩,
    ⟨(some 7), none, (.load none (.t 6))⟩,
    ⟨(some 8), none, (.call (.c (.fn 51 [])) [(.t 5), (.t 7)])⟩,
    ⟨(some 9), none, (.faddr 1 (.t 3))⟩,
    ⟨(some 10), none, (.load none (.t 9))⟩,
    ⟨(some 11), none, (.call (.c (.fn 51 [])) [(.t 8), (.t 10)])⟩,
    ⟨(some 4), none, (.mv (.t 11))⟩] true) .ret))⟩
/- standby/wire.put[standby/api.Write] -/
def s58b0 : SCode := 
  (.seq [0, 2, 13, 14, 15, 16] (.region [⟨(some 16), none, (.bin .lss .none (.t 15) (.t 14))⟩] false) (.seq [0, 2, 13, 14, 15] (.cond (.t 16) .skip (.exit 0)) (.seq [0, 2, 13, 14, 15] (.block 1 (.seq [0, 2, 8, 13, 14, 15] (.region [⟨(some 17), none, (.iaddr 3 none (.t 13) (.t 15))⟩,
    ⟨(some 18), none, (.load (some 3) (.t 17))⟩,
    ⟨(some 8), none, (.alloc [(.v (.int .i64 0)), (.v (.int .i64 0)), (.v (.slice none 0 0))])⟩,
    ⟨none, none, (.store 3 (.t 8) (.t 18))⟩] false) (.region [⟨(some 19), none, (.mv (.t 2))⟩,
    ⟨(some 20), none, (.mv (.t 0))⟩,
    ⟨(some 21), none, (.load (some 3) (.t 8))⟩,
    ⟨(some 22), none, (.call (.t 19) [(.t 20), (.t 21)])⟩,
    ⟨(some 0), none, (.mv (.t 22))⟩] false))) (.region [⟨(some 23), none, (.bin .add .none (.t 15) (.c (.v (.int .i64 1))))⟩,
    ⟨(some 15), none, (.mv (.t 23))⟩] false))))
def s58 : SFn := 
  ⟨.whole, 3, [(.tmp 6)], (.seq [0, 1, 2] (.region [⟨(some 6), none, (.mv (.c (.v (.slice none 0 0))))⟩] false) (.seq [0, 1, 2] (.region [⟨(some 9), none, (.mv (.t 0))⟩,
    ⟨(some 10), none, (.mv (.t 1))⟩,
    ⟨(some 11), none, (.len (.t 10))⟩,
    ⟨(some 12), none, (.call (.c (.fn 51 [])) [(.t 9), (.t 11)])⟩,
    ⟨(some 0), none, (.mv (.t 12))⟩] false) (.seq [0] (.seq [0, 2, 13, 14, 15] (.region [⟨(some 13), none, (.mv (.t 1))⟩,
    ⟨(some 14), none, (.len (.t 13))⟩,
    ⟨(some 15), none, (.mv (.c (.v (.int .i64 0))))⟩] false) (.block 0 (.loop [0, 2, 13, 14, 15] s58b0))) (.seq [6] (.region [⟨(some 24), none, (.mv (.t 0))⟩,
    ⟨(some 6), none, (.mv (.t 24))⟩] false) .ret))))⟩
/- standby/wire.putWrite -/
def s59 : SFn := 
  ⟨.whole, 2, [(.tmp 4)], (.seq [0, 3] (.region [⟨(some 3), none, (.box (.t 1))⟩,
    ⟨(some 4), none, (.mv (.c (.v (.slice none 0 0))))⟩] false) (.seq [4] (.region [⟨(some 5), none, (.mv (.t 0))⟩,
    ⟨(some 6), none, (.faddr 0 (.t 3))⟩,
    ⟨(some 7), none, (.load none (.t 6))⟩,
    ⟨(some 8), none, (.call (.c (.fn 51 [])) [(.t 5), (.t 7)])⟩,
    ⟨(some 9), none, (.faddr 1 (.t 3))⟩,
    ⟨(some 10), none, (.load none (.t 9))⟩,
    ⟨(some 11), none, (.call (.c (.fn 51 [])) [(.t 8), (.t 10)])⟩,
    ⟨(some 12), none, (.faddr 2 (.t 3))⟩,
    ⟨(some 13), none, (.load none (.t 12))⟩,
    ⟨(some 14), none, (.call (.c (.fn 54 [])) [(.t 11), (.t 13), (.c (.fn 55 []))])⟩,
    ⟨(some 4), none, (.mv (.t 14))⟩] true) .ret))⟩
/- standby/wire.read[int] -/
def s60 : SFn := 
  ⟨.plain, 2, [(.tmp 4), (.tmp 5), (.tmp 6)], (.seq [0, 1] (.region [⟨(some 4), none, (.mv (.c (.v (.int .i64 0))))⟩,
    ⟨(some 5), none, (.mv (.c (.v (.slice none 0 0))))⟩,
    ⟨(some 6), none, (.mv (.c (.v (.int .i64 0))))⟩] false) (.seq [1, 7] (.region [⟨(some 11), none, (.mv (.t 0))⟩,
    ⟨(some 12), none, (.build [(.v (.slice none 0 0))] [(0, (1, (.t 11)))])⟩,
    ⟨(some 13), none, (.box (.t 12))⟩,
    ⟨(some 7), none, (.mv (.t 13))⟩] false) (.seq [7, 8, 9] (.region [⟨(some 15), none, (.mv (.t 1))⟩,
    ⟨(some 16), none, (.mv (.t 7))⟩,
    ⟨(some 17), none, (.call (.t 15) [(.t 16)])⟩,
    ⟨(some 14), none, (.mv (.t 17))⟩,
    ⟨(some 18), none, (.extract (.t 14) 0)⟩,
    ⟨(some 19), none, (.extract (.t 14) 1)⟩,
    ⟨(some 8), none, (.mv (.t 18))⟩,
    ⟨(some 9), none, (.mv (.t 19))⟩] false) (.seq [7, 8] (.seq [7, 8, 9, 21] (.region [⟨(some 20), none, (.mv (.t 9))⟩,
    ⟨(some 21), none, (.bin .neq .none (.t 20) (.c (.v (.int .i64 0))))⟩] false) (.cond (.t 21) (.seq [9, 10] (.region [⟨(some 10), none, (.mv (.c (.v (.int .i64 0))))⟩] false) (.seq [4, 5, 6] (.region [⟨(some 22), none, (.mv (.t 10))⟩,
    ⟨(some 23), none, (.mv (.t 9))⟩,
    ⟨(some 4), none, (.mv (.t 22))⟩,
    ⟨(some 5), none, (.mv (.c (.v (.slice none 0 0))))⟩,
    ⟨(some 6), none, (.mv (.t 23))⟩] false) .ret)) .skip)) (.seq [4, 5, 6] (.region [⟨(some 24), none, (.mv (.t 8))⟩,
    ⟨(some 25), none, (.mv (.t 7))⟩,
    ⟨(some 26), none, (.nilck (.t 25))⟩,
    ⟨(some 27), none, (.faddr 0 (.t 26))⟩,
    ⟨(some 28), none, (.load none (.t 27))⟩,
    ⟨(some 29), none, (.call (.c (.fn 27 [])) [(.t 28)])⟩,
    ⟨(some 4), none, (.mv (.t 24))⟩,
    ⟨(some 5), none, (.mv (.t 29))⟩,
    ⟨(some 6), none, (.mv (.c (.v (.int .i64 0))))⟩] false) .ret)))))⟩
/- (*standby/wire.cursor).number -/
def s61b0 : SCode := 
  (.seq [0, 4, 7, 8] (.region [⟨(some 8), none, (.bin .lss .none (.t 7) (.c (.v (.int .i64 8))))⟩] false) (.seq [0, 4, 7] (.cond (.t 8) .skip (.exit 0)) (.seq [0, 4, 7] (.block 1 (.seq [0, 4, 5, 7] (.region [⟨(some 9), none, (.mv (.t 7))⟩,
    ⟨(some 5), none, (.mv (.t 9))⟩] false) (.seq [0, 4, 5, 7] (.seq [0, 4, 5, 7, 16] (.region [⟨(some 10), none, (.mv (.t 5))⟩,
    ⟨(some 11), none, (.mv (.t 0))⟩,
    ⟨(some 12), none, (.nilck (.t 11))⟩,
    ⟨(some 13), none, (.faddr 0 (.t 12))⟩,
    ⟨(some 14), none, (.load none (.t 13))⟩,
    ⟨(some 15), none, (.len (.t 14))⟩,
    ⟨(some 16), none, (.bin .geq .none (.t 10) (.t 15))⟩] false) (.cond (.t 16) (.seq [2, 3] (.region [⟨(some 2), none, (.mv (.c (.v (.int .i64 0))))⟩,
    ⟨(some 3), none, (.mv (.c (.v (.int .i64 10))))⟩] false) .ret) .skip)) (.seq [0, 4, 5, 6, 7] (.region [⟨(some 17), none, (.mv (.t 0))⟩,
    ⟨(some 18), none, (.nilck (.t 17))⟩,
    ⟨(some 19), none, (.faddr 0 (.t 18))⟩,
    ⟨(some 20), none, (.load none (.t 19))⟩,
    ⟨(some 21), none, (.mv (.t 5))⟩,
    ⟨(some 22), none, (.iaddr 1 none (.t 20) (.t 21))⟩,
    ⟨(some 23), none, (.load none (.t 22))⟩,
    ⟨(some 6), none, (.mv (.t 23))⟩] false) (.seq [0, 4, 5, 6, 7] (.region [⟨(some 24), none, (.mv (.t 4))⟩,
    ⟨(some 25), none, (.mv (.t 6))⟩,
    ⟨(some 26), none, (.bin .and .none (.t 25) (.c (.v (.int .u8 127))))⟩,
    ⟨(some 27), none, (.conv .i64 (.t 26))⟩,
    ⟨(some 28), none, (.mv (.t 5))⟩,
    ⟨(some 29), none, (.bin .mul .none (.c (.v (.int .i64 7))) (.t 28))⟩,
    ⟨(some 30), none, (.bin .shl .none (.t 27) (.t 29))⟩,
    ⟨(some 31), none, (.bin .or .none (.t 24) (.t 30))⟩,
    ⟨(some 4), none, (.mv (.t 31))⟩] false) (.seq [0, 4, 5, 6] (.seq [0, 4, 5, 6, 7, 34] (.region [⟨(some 32), none, (.mv (.t 6))⟩,
    ⟨(some 33), none, (.bin .and .none (.t 32) (.c (.v (.int .u8 128))))⟩,
    ⟨(some 34), none, (.bin .neq .none (.t 33) (.c (.v (.int .u8 0))))⟩] false) (.cond (.t 34) (.exit 1) .skip)) (.seq [0, 4, 5] (.seq [0, 4, 5, 44] (.region [⟨(some 35), none, (.mv (.t 6))⟩,
    ⟨(some 36), none, (.bin .eql .none (.t 35) (.c (.v (.int .u8 0))))⟩,
    ⟨(some 37), none, (.mv (.t 36))⟩,
    ⟨(some 38), (some (37, true)), (.mv (.t 5))⟩,
    ⟨(some 39), (some (37, true)), (.bin .gtr .none (.t 38) (.c (.v (.int .i64 0))))⟩,
    ⟨(some 40), none, (.pick (.t 37) (.t 39) (.c (.v (.bool false))))⟩,
    ⟨(some 41), none, (.mv (.t 40))⟩,
    ⟨(some 42), (some (41, false)), (.mv (.t 4))⟩,
    ⟨(some 43), (some (41, false)), (.bin .gtr .none (.t 42) (.c (.v (.int .i64 9007199254740991))))⟩,
    ⟨(some 44), none, (.pick (.t 41) (.c (.v (.bool true))) (.t 43))⟩] false) (.cond (.t 44) (.seq [2, 3] (.region [⟨(some 2), none, (.mv (.c (.v (.int .i64 0))))⟩,
    ⟨(some 3), none, (.mv (.c (.v (.int .i64 3))))⟩] false) .ret) .skip)) (.seq [4] (.region [⟨(some 45), none, (.mv (.t 0))⟩,
    ⟨(some 46), none, (.mv (.t 0))⟩,
    ⟨(some 47), none, (.nilck (.t 46))⟩,
    ⟨(some 48), none, (.faddr 0 (.t 47))⟩,
    ⟨(some 49), none, (.load none (.t 48))⟩,
    ⟨(some 50), none, (.mv (.t 5))⟩,
    ⟨(some 51), none, (.bin .add .none (.t 50) (.c (.v (.int .i64 1))))⟩,
    ⟨(some 52), none, (.slice 1 (.t 49) (some (.t 51)) none)⟩,
    ⟨(some 53), none, (.nilck (.t 45))⟩,
    ⟨(some 54), none, (.faddr 0 (.t 53))⟩,
    ⟨none, none, (.store 1 (.t 54) (.t 52))⟩] false) (.seq [2, 3] (.region [⟨(some 55), none, (.mv (.t 4))⟩,
    ⟨(some 2), none, (.mv (.t 55))⟩,
    ⟨(some 3), none, (.mv (.c (.v (.int .i64 0))))⟩] false) .ret))))))))) (.region [⟨(some 56), none, (.bin .add .none (.t 7) (.c (.v (.int .i64 1))))⟩,
    ⟨(some 7), none, (.mv (.t 56))⟩] false))))
def s61 : SFn := 
  ⟨.whole, 1, [(.tmp 2), (.tmp 3)], (.seq [0] (.region [⟨(some 2), none, (.mv (.c (.v (.int .i64 0))))⟩,
    ⟨(some 3), none, (.mv (.c (.v (.int .i64 0))))⟩] false) (.seq [0, 4] (.region [⟨(some 4), none, (.mv (.c (.v (.int .i64 0))))⟩] false) (.seq [] (.seq [0, 4, 7] (.region [⟨(some 7), none, (.mv (.c (.v (.int .i64 0))))⟩] false) (.block 0 (.loop [0, 4, 7] s61b0))) (.seq [2, 3] (.region [⟨(some 2), none, (.mv (.c (.v (.int .i64 0))))⟩,
    ⟨(some 3), none, (.mv (.c (.v (.int .i64 3))))⟩] false) .ret))))⟩
/- standby/wire.read[[]standby/api.Write] -/
def s62 : SFn := 
  ⟨.plain, 2, [(.tmp 4), (.tmp 5), (.tmp 6)], (.seq [0, 1] (.region [⟨(some 4), none, (.mv (.c (.v (.slice none 0 0))))⟩,
    ⟨(some 5), none, (.mv (.c (.v (.slice none 0 0))))⟩,
    ⟨(some 6), none, (.mv (.c (.v (.int .i64 0))))⟩] false) (.seq [1, 7] (.region [⟨(some 11), none, (.mv (.t 0))⟩,
    ⟨(some 12), none, (.build [(.v (.slice none 0 0))] [(0, (1, (.t 11)))])⟩,
    ⟨(some 13), none, (.box (.t 12))⟩,
    ⟨(some 7), none, (.mv (.t 13))⟩] false) (.seq [7, 8, 9] (.region [⟨(some 15), none, (.mv (.t 1))⟩,
    ⟨(some 16), none, (.mv (.t 7))⟩,
    ⟨(some 17), none, (.call (.t 15) [(.t 16)])⟩,
    ⟨(some 14), none, (.mv (.t 17))⟩,
    ⟨(some 18), none, (.extract (.t 14) 0)⟩,
    ⟨(some 19), none, (.extract (.t 14) 1)⟩,
    ⟨(some 8), none, (.mv (.t 18))⟩,
    ⟨(some 9), none, (.mv (.t 19))⟩] false) (.seq [7, 8] (.seq [7, 8, 9, 21] (.region [⟨(some 20), none, (.mv (.t 9))⟩,
    ⟨(some 21), none, (.bin .neq .none (.t 20) (.c (.v (.int .i64 0))))⟩] false) (.cond (.t 21) (.seq [9, 10] (.region [⟨(some 10), none, (.mv (.c (.v (.slice none 0 0))))⟩] false) (.seq [4, 5, 6] (.region [⟨(some 22), none, (.mv (.t 10))⟩,
    ⟨(some 23), none, (.mv (.t 9))⟩,
    ⟨(some 4), none, (.mv (.t 22))⟩,
    ⟨(some 5), none, (.mv (.c (.v (.slice none 0 0))))⟩,
    ⟨(some 6), none, (.mv (.t 23))⟩] false) .ret)) .skip)) (.seq [4, 5, 6] (.region [⟨(some 24), none, (.mv (.t 8))⟩,
    ⟨(some 25), none, (.mv (.t 7))⟩,
    ⟨(some 26), none, (.nilck (.t 25))⟩,
    ⟨(some 27), none, (.faddr 0 (.t 26))⟩,
    ⟨(some 28), none, (.load none (.t 27))⟩,
    ⟨(some 29), none, (.call (.c (.fn 27 [])) [(.t 28)])⟩,
    ⟨(some 4), none, (.mv (.t 24))⟩,
    ⟨(some 5), none, (.mv (.t 29))⟩,
    ⟨(some 6), none, (.mv (.c (.v (.int .i64 0))))⟩] false) .ret)))))⟩
/- standby/wire.Writes$1 -/
def s63 : SFn := 
  ⟨.whole, 1, [(.tmp 2), (.tmp 3)], (.seq [0] (.region [⟨(some 2), none, (.mv (.c (.v (.slice none 0 0))))⟩,
    ⟨(some 3), none, (.mv (.c (.v (.int .i64 0))))⟩] false) (.seq [2, 3] (.region [⟨(some 4), none, (.mv (.t 0))⟩,
    ⟨(some 5), none, (.call (.c (.fn 64 [])) [(.t 4), (.c (.fn 65 []))])⟩,
    ⟨(some 6), none, (.extract (.t 5) 0)⟩,
    ⟨(some 7), none, (.extract (.t 5) 1)⟩,
    ⟨(some 2), none, (.mv (.t 6))⟩,
    ⟨(some 3), none, (.mv (.t 7))⟩] false) .ret))⟩
/- standby/wire.list[standby/api.Write] -/
def s64b0 : SCode := 
  (.seq [0, 1, 8, 19, 20, 21] (.region [⟨(some 21), none, (.bin .lss .none (.t 20) (.t 19))⟩] false) (.seq [0, 1, 8, 19, 20] (.cond (.t 21) .skip (.exit 0)) (.seq [0, 1, 8, 19, 20] (.block 1 (.seq [0, 1, 8, 9, 10, 19, 20] (.region [⟨(some 23), none, (.mv (.t 1))⟩,
    ⟨(some 24), none, (.mv (.t 0))⟩,
    ⟨(some 25), none, (.call (.t 23) [(.t 24)])⟩,
    ⟨(some 22), none, (.mv (.t 25))⟩,
    ⟨(some 26), none, (.extract (.t 22) 0)⟩,
    ⟨(some 27), none, (.extract (.t 22) 1)⟩,
    ⟨(some 9), none, (.alloc [(.v (.int .i64 0)), (.v (.int .i64 0)), (.v (.slice none 0 0))])⟩,
    ⟨none, none, (.store 3 (.t 9) (.t 26))⟩,
    ⟨(some 10), none, (.mv (.t 27))⟩] false) (.seq [0, 1, 8, 9, 19, 20] (.seq [0, 1, 8, 9, 10, 19, 20, 29] (.region [⟨(some 28), none, (.mv (.t 10))⟩,
    ⟨(some 29), none, (.bin .neq .none (.t 28) (.c (.v (.int .i64 0))))⟩] false) (.cond (.t 29) (.seq [4, 5] (.region [⟨(some 30), none, (.mv (.t 10))⟩,
    ⟨(some 4), none, (.mv (.c (.v (.slice none 0 0))))⟩,
    ⟨(some 5), none, (.mv (.t 30))⟩] false) .ret) .skip)) (.region [⟨(some 31), none, (.mv (.t 8))⟩,
    ⟨(some 32), none, (.load (some 3) (.t 9))⟩,
    ⟨(some 33), none, (.bslice [(.v (.int .i64 0)), (.v (.int .i64 0)), (.v (.slice none 0 0))] 1 [(0, (3, (.t 32)))])⟩,
    ⟨(some 34), none, (.append 3 40 (.t 31) (.t 33))⟩,
    ⟨(some 8), none, (.mv (.t 34))⟩] false)))) (.region [⟨(some 35), none, (.bin .add .none (.t 20) (.c (.v (.int .i64 1))))⟩,
    ⟨(some 20), none, (.mv (.t 35))⟩] false))))
def s64 : SFn := 
  ⟨.whole, 2, [(.tmp 4), (.tmp 5)], (.seq [0, 1] (.region [⟨(some 4), none, (.mv (.c (.v (.slice none 0 0))))⟩,
    ⟨(some 5), none, (.mv (.c (.v (.int .i64 0))))⟩] false) (.seq [0, 1, 6, 7] (.region [⟨(some 12), none, (.mv (.t 0))⟩,
    ⟨(some 13), none, (.call (.c (.fn 84 [])) [(.t 12)])⟩,
    ⟨(some 11), none, (.mv (.t 13))⟩,
    ⟨(some 14), none, (.extract (.t 11) 0)⟩,
    ⟨(some 15), none, (.extract (.t 11) 1)⟩,
    ⟨(some 6), none, (.mv (.t 14))⟩,
    ⟨(some 7), none, (.mv (.t 15))⟩] false) (.seq [0, 1, 6] (.seq [0, 1, 6, 7, 17] (.region [⟨(some 16), none, (.mv (.t 7))⟩,
    ⟨(some 17), none, (.bin .neq .none (.t 16) (.c (.v (.int .i64 0))))⟩] false) (.cond (.t 17) (.seq [4, 5] (.region [⟨(some 18), none, (.mv (.t 7))⟩,
    ⟨(some 4), none, (.mv (.c (.v (.slice none 0 0))))⟩,
    ⟨(some 5), none, (.mv (.t 18))⟩] false) .ret) .skip)) (.seq [0, 1, 6, 8] (.region [⟨(some 8), none, (.mv (.c (.v (.slice none 0 0))))⟩] false) (.seq [8] (.seq [0, 1, 8, 19, 20] (.region [⟨(some 19), none, (.mv (.t 6))⟩,
    ⟨(some 20), none, (.mv (.c (.v (.int .i64 0))))⟩] false) (.block 0 (.loop [0, 1, 8, 19, 20] s64b0))) (.seq [4, 5] (.region [⟨(some 36), none, (.mv (.t 8))⟩,
    ⟨(some 4), none, (.mv (.t 36))⟩,
    ⟨(some 5), none, (.mv (.c (.v (.int .i64 0))))⟩] false) .ret))))))⟩
/- (*standby/wire.cursor).write -/
def s65 : SFn := 
  ⟨.whole, 1, [(.cell 2 (some 3)), (.tmp 3)], (.seq [0, 2] (.region [⟨(some 2), none, (.alloc [(.v (.int .i64 0)), (.v (.int .i64 0)), (.v (.slice none 0 0))])⟩,
    ⟨(some 3), none, (.mv (.c (.v (.int .i64 0))))⟩] false) (.seq [0, 2, 4, 5, 6] (.region [⟨(some 9), none, (.mv (.t 0))⟩,
    ⟨(some 10), none, (.call (.c (.fn 85 [])) [(.t 9)])⟩,
    ⟨(some 8), none, (.mv (.t 10))⟩,
    ⟨(some 11), none, (.extract (.t 8) 0)⟩,
    ⟨(some 12), none, (.extract (.t 8) 1)⟩,
    ⟨(some 13), none, (.extract (.t 8) 2)⟩,
    ⟨(some 4), none, (.mv (.t 11))⟩,
    ⟨(some 5), none, (.mv (.t 12))⟩,
    ⟨(some 6), none, (.mv (.t 13))⟩] false) (.seq [0, 2, 4, 5] (.seq [0, 2, 4, 5, 6, 15] (.region [⟨(some 14), none, (.mv (.t 6))⟩,
    ⟨(some 15), none, (.bin .neq .none (.t 14) (.c (.v (.int .i64 0))))⟩] false) (.cond (.t 15) (.seq [2, 3] (.region [⟨(some 16), none, (.build [(.v (.int .i64 0)), (.v (.int .i64 0)), (.v (.slice none 0 0))] [])⟩,
    ⟨(some 17), none, (.mv (.t 6))⟩,
    ⟨none, none, (.store 3 (.t 2) (.t 16))⟩,
    ⟨(some 3), none, (.mv (.t 17))⟩] false) .ret) .skip)) (.seq [2, 4, 5, 6, 7] (.region [⟨(some 19), none, (.mv (.t 0))⟩,
    ⟨(some 20), none, (.call (.c (.fn 67 [])) [(.t 19)])⟩,
    ⟨(some 18), none, (.mv (.t 20))⟩,
    ⟨(some 21), none, (.extract (.t 18) 0)⟩,
    ⟨(some 22), none, (.extract (.t 18) 1)⟩,
    ⟨(some 7), none, (.mv (.t 21))⟩,
    ⟨(some 6), none, (.mv (.t 22))⟩] false) (.seq [2, 3] (.region [⟨(some 23), none, (.mv (.t 4))⟩,
    ⟨(some 24), none, (.mv (.t 5))⟩,
    ⟨(some 25), none, (.mv (.t 7))⟩,
    ⟨(some 26), none, (.build [(.v (.int .i64 0)), (.v (.int .i64 0)), (.v (.slice none 0 0))] [(0, (1, (.t 23))), (1, (1, (.t 24))), (2, (1, (.t 25)))])⟩,
    ⟨(some 27), none, (.mv (.t 6))⟩,
    ⟨none, none, (.store 3 (.t 2) (.t 26))⟩,
    ⟨(some 3), none, (.mv (.t 27))⟩] false) .ret)))))⟩
/- standby/wire.read[[]standby/api.Sector] -/
def s66 : SFn := 
  ⟨.plain, 2, [(.tmp 4), (.tmp 5), (.tmp 6)], (.seq [0, 1] (.region [⟨(some 4), none, (.mv (.c (.v (.slice none 0 0))))⟩,
    ⟨(some 5), none, (.mv (.c (.v (.slice none 0 0))))⟩,
    ⟨(some 6), none, (.mv (.c (.v (.int .i64 0))))⟩] false) (.seq [1, 7] (.region [⟨(some 11), none, (.mv (.t 0))⟩,
    ⟨(some 12), none, (.build [(.v (.slice none 0 0))] [(0, (1, (.t 11)))])⟩,
    ⟨(some 13), none, (.box (.t 12))⟩,
    ⟨(some 7), none, (.mv (.t 13))⟩] false) (.seq [7, 8, 9] (.region [⟨(some 15), none, (.mv (.t 1))⟩,
    ⟨(some 16), none, (.mv (.t 7))⟩,
    ⟨(some 17), none, (.call (.t 15) [(.t 16)])⟩,
    ⟨(some 14), none, (.mv (.t 17))⟩,
    ⟨(some 18), none, (.extract (.t 14) 0)⟩,
    ⟨(some 19), none, (.extract (.t 14) 1)⟩,
    ⟨(some 8), none, (.mv (.t 18))⟩,
    ⟨(some 9), none, (.mv (.t 19))⟩] false) (.seq [7, 8] (.seq [7, 8, 9, 21] (.region [⟨(some 20), none, (.mv (.t 9))⟩,
    ⟨(some 21), none, (.bin .neq .none (.t 20) (.c (.v (.int .i64 0))))⟩] false) (.cond (.t 21) (.seq [9, 10] (.region [⟨(some 10), none, (.mv (.c (.v (.slice none 0 0))))⟩] false) (.seq [4, 5, 6] (.region [⟨(some 22), none, (.mv (.t 10))⟩,
    ⟨(some 23), none, (.mv (.t 9))⟩,
    ⟨(some 4), none, (.mv (.t 22))⟩,
    ⟨(some 5), none, (.mv (.c (.v (.slice none 0 0))))⟩,
    ⟨(some 6), none, (.mv (.t 23))⟩] false) .ret)) .skip)) (.seq [4, 5, 6] (.region [⟨(some 24), none, (.mv (.t 8))⟩,
    ⟨(some 25), none, (.mv (.t 7))⟩,
    ⟨(some 26), none, (.nilck (.t 25))⟩,
    ⟨(some 27), none, (.faddr 0 (.t 26))⟩,
    ⟨(some 28), none, (.load none (.t 27))⟩,
    ⟨(some 29), none, (.call (.c (.fn 27 [])) [(.t 28)])⟩,
    ⟨(some 4), none, (.mv (.t 24))⟩,
    ⟨(some 5), none, (.mv (.t 29))⟩,
    ⟨(some 6), none, (.mv (.c (.v (.int .i64 0))))⟩] false) .ret)))))⟩
/- (*standby/wire.cursor).sectors -/
def s67 : SFn := 
  ⟨.whole, 1, [(.tmp 2), (.tmp 3)], (.seq [0] (.region [⟨(some 2), none, (.mv (.c (.v (.slice none 0 0))))⟩,
    ⟨(some 3), none, (.mv (.c (.v (.int .i64 0))))⟩] false) (.seq [2, 3] (.region [⟨(some 4), none, (.mv (.t 0))⟩,
    ⟨(some 5), none, (.call (.c (.fn 86 [])) [(.t 4), (.c (.fn 87 []))])⟩,
    ⟨(some 6), none, (.extract (.t 5) 0)⟩,
    ⟨(some 7), none, (.extract (.t 5) 1)⟩,
    ⟨(some 2), none, (.mv (.t 6))⟩,
    ⟨(some 3), none, (.mv (.t 7))⟩] false) .ret))⟩
/- standby/wire.read[[]int] -/
def s68 : SFn := 
  ⟨.plain, 2, [(.tmp 4), (.tmp 5), (.tmp 6)], (.seq [0, 1] (.region [⟨(some 4), none, (.mv (.c (.v (.slice none 0 0))))⟩,
    ⟨(some 5), none, (.mv (.c (.v (.slice none 0 0))))⟩,
    ⟨(some 6), none, (.mv (.c (.v (.int .i64 0))))⟩] false) (.seq [1, 7] (.region [⟨(some 11), none, (.mv (.t 0))⟩,
    ⟨(some 12), none, (.build [(.v (.slice none 0 0))] [(0, (1, (.t 11)))])⟩,
    ⟨(some 13), none, (.box (.t 12))⟩,
    ⟨(some 7), none, (.mv (.t 13))⟩] false) (.seq [7, 8, 9] (.region [⟨(some 15), none, (.mv (.t 1))⟩,
    ⟨(some 16), none, (.mv (.t 7))⟩,
    ⟨(some 17), none, (.call (.t 15) [(.t 16)])⟩,
    ⟨(some 14), none, (.mv (.t 17))⟩,
    ⟨(some 18), none, (.extract (.t 14) 0)⟩,
    ⟨(some 19), none, (.extract (.t 14) 1)⟩,
    ⟨(some 8), none, (.mv (.t 18))⟩,
    ⟨(some 9), none, (.mv (.t 19))⟩] false) (.seq [7, 8] (.seq [7, 8, 9, 21] (.region [⟨(some 20), none, (.mv (.t 9))⟩,
    ⟨(some 21), none, (.bin .neq .none (.t 20) (.c (.v (.int .i64 0))))⟩] false) (.cond (.t 21) (.seq [9, 10] (.region [⟨(some 10), none, (.mv (.c (.v (.slice none 0 0))))⟩] false) (.seq [4, 5, 6] (.region [⟨(some 22), none, (.mv (.t 10))⟩,
    ⟨(some 23), none, (.mv (.t 9))⟩,
    ⟨(some 4), none, (.mv (.t 22))⟩,
    ⟨(some 5), none, (.mv (.c (.v (.slice none 0 0))))⟩,
    ⟨(some 6), none, (.mv (.t 23))⟩] false) .ret)) .skip)) (.seq [4, 5, 6] (.region [⟨(some 24), none, (.mv (.t 8))⟩,
    ⟨(some 25), none, (.mv (.t 7))⟩,
    ⟨(some 26), none, (.nilck (.t 25))⟩,
    ⟨(some 27), none, (.faddr 0 (.t 26))⟩,
    ⟨(some 28), none, (.load none (.t 27))⟩,
    ⟨(some 29), none, (.call (.c (.fn 27 [])) [(.t 28)])⟩,
    ⟨(some 4), none, (.mv (.t 24))⟩,
    ⟨(some 5), none, (.mv (.t 29))⟩,
    ⟨(some 6), none, (.mv (.c (.v (.int .i64 0))))⟩] false) .ret)))))⟩
/- standby/wire.Ints$1 -/
def s69 : SFn := 
  ⟨.whole, 1, [(.tmp 2), (.tmp 3)], (.seq [0] (.region [⟨(some 2), none, (.mv (.c (.v (.slice none 0 0))))⟩,
    ⟨(some 3), none, (.mv (.c (.v (.int .i64 0))))⟩] false) (.seq [2, 3] (.region [⟨(some 4), none, (.mv (.t 0))⟩,
    ⟨(some 5), none, (.call (.c (.fn 70 [])) [(.t 4), (.c (.fn 61 []))])⟩,
    ⟨(some 6), none, (.extract (.t 5) 0)⟩,
    ⟨(some 7), none, (.extract (.t 5) 1)⟩,
    ⟨(some 2), none, (.mv (.t 6))⟩,
    ⟨(some 3), none, (.mv (.t 7))⟩] false) .ret))⟩
/- standby/wire.list[int] -/
def s70b0 : SCode := 
  (.seq [0, 1, 8, 19, 20, 21] (.region [⟨(some 21), none, (.bin .lss .none (.t 20) (.t 19))⟩] false) (.seq [0, 1, 8, 19, 20] (.cond (.t 21) .skip (.exit 0)) (.seq [0, 1, 8, 19, 20] (.block 1 (.seq [0, 1, 8, 9, 10, 19, 20] (.region [⟨(some 23), none, (.mv (.t 1))⟩,
    ⟨(some 24), none, (.mv (.t 0))⟩,
    ⟨(some 25), none, (.call (.t 23) [(.t 24)])⟩,
    ⟨(some 22), none, (.mv (.t 25))⟩,
    ⟨(some 26), none, (.extract (.t 22) 0)⟩,
    ⟨(some 27), none, (.extract (.t 22) 1)⟩,
    ⟨(some 9), none, (.mv (.t 26))⟩,
    ⟨(some 10), none, (.mv (.t 27))⟩] false) (.seq [0, 1, 8, 9, 19, 20] (.seq [0, 1, 8, 9, 10, 19, 20, 29] (.region [⟨(some 28), none, (.mv (.t 10))⟩,
    ⟨(some 29), none, (.bin .neq .none (.t 28) (.c (.v (.int .i64 0))))⟩] false) (.cond (.t 29) (.seq [4, 5] (.region [⟨(some 30), none, (.mv (.t 10))⟩,
    ⟨(some 4), none, (.mv (.c (.v (.slice none 0 0))))⟩,
    ⟨(some 5), none, (.mv (.t 30))⟩] false) .ret) .skip)) (.region [⟨(some 31), none, (.mv (.t 8))⟩,
    ⟨(some 32), none, (.mv (.t 9))⟩,
    ⟨(some 33), none, (.bslice [(.v (.int .i64 0))] 1 [(0, (1, (.t 32)))])⟩,
    ⟨(some 34), none, (.append 1 8 (.t 31) (.t 33))⟩,
    ⟨(some 8), none, (.mv (.t 34))⟩] false)))) (.region [⟨(some 35), none, (.bin .add .none (.t 20) (.c (.v (.int .i64 1))))⟩,
    ⟨(some 20), none, (.mv (.t 35))⟩] false))))
def s70 : SFn := 
  ⟨.whole, 2, [(.tmp 4), (.tmp 5)], (.seq [0, 1] (.region [⟨(some 4), none, (.mv (.c (.v (.slice none 0 0))))⟩,
    ⟨(some 5), none, (.mv (.c (.v (.int .i64 0))))⟩] false) (.seq [0, 1, 6, 7] (.region [⟨(some 12), none, (.mv (.t 0))⟩,
    ⟨(some 13), none, (.call (.c (.fn 84 [])) [(.t 12)])⟩,
    ⟨(some 11), none, (.mv (.t 13))⟩,
    ⟨(some 14), none, (.extract (.t 11) 0)⟩,
    ⟨(some 15), none, (.extract (.t 11) 1)⟩,
    ⟨(some 6), none, (.mv (.t 14))⟩,
    ⟨(some 7), none, (.mv (.t 15))⟩] false) (.seq [0, 1, 6] (.seq [0, 1, 6, 7, 17] (.region [⟨(some 16), none, (.mv (.t 7))⟩,
    ⟨(some 17), none, (.bin .neq .none (.t 16) (.c (.v (.int .i64 0))))⟩] false) (.cond (.t 17) (.seq [4, 5] (.region [⟨(some 18), none, (.mv (.t 7))⟩,
    ⟨(some 4), none, (.mv (.c (.v (.slice none 0 0))))⟩,
    ⟨(some 5), none, (.mv (.t 18))⟩] false) .ret) .skip)) (.seq [0, 1, 6, 8] (.region [⟨(some 8), none, (.mv (.c (.v (.slice none 0 0))))⟩] false) (.seq [8] (.seq [0, 1, 8, 19, 20] (.region [⟨(some 19), none, (.mv (.t 6))⟩,
    ⟨(some 20), none, (.mv (.c (.v (.int .i64 0))))⟩] false) (.block 0 (.loop [0, 1, 8, 19, 20] s70b0))) (.seq [4, 5] (.region [⟨(some 36), none, (.mv (.t 8))⟩,
    ⟨(some 4), none, (.mv (.t 36))⟩,
    ⟨(some 5), none, (.mv (.c (.v (.int .i64 0))))⟩] false) .ret))))))⟩
/- standby/wire.read[[]byte] -/
def s71 : SFn := 
  ⟨.plain, 2, [(.tmp 4), (.tmp 5), (.tmp 6)], (.seq [0, 1] (.region [⟨(some 4), none, (.mv (.c (.v (.slice none 0 0))))⟩,
    ⟨(some 5), none, (.mv (.c (.v (.slice none 0 0))))⟩,
    ⟨(some 6), none, (.mv (.c (.v (.int .i64 0))))⟩] false) (.seq [1, 7] (.region [⟨(some 11), none, (.mv (.t 0))⟩,
    ⟨(some 12), none, (.build [(.v (.slice none 0 0))] [(0, (1, (.t 11)))])⟩,
    ⟨(some 13), none, (.box (.t 12))⟩,
    ⟨(some 7), none, (.mv (.t 13))⟩] false) (.seq [7, 8, 9] (.region [⟨(some 15), none, (.mv (.t 1))⟩,
    ⟨(some 16), none, (.mv (.t 7))⟩,
    ⟨(some 17), none, (.call (.t 15) [(.t 16)])⟩,
    ⟨(some 14), none, (.mv (.t 17))⟩,
    ⟨(some 18), none, (.extract (.t 14) 0)⟩,
    ⟨(some 19), none, (.extract (.t 14) 1)⟩,
    ⟨(some 8), none, (.mv (.t 18))⟩,
    ⟨(some 9), none, (.mv (.t 19))⟩] false) (.seq [7, 8] (.seq [7, 8, 9, 21] (.region [⟨(some 20), none, (.mv (.t 9))⟩,
    ⟨(some 21), none, (.bin .neq .none (.t 20) (.c (.v (.int .i64 0))))⟩] false) (.cond (.t 21) (.seq [9, 10] (.region [⟨(some 10), none, (.mv (.c (.v (.slice none 0 0))))⟩] false) (.seq [4, 5, 6] (.region [⟨(some 22), none, (.mv (.t 10))⟩,
    ⟨(some 23), none, (.mv (.t 9))⟩,
    ⟨(some 4), none, (.mv (.t 22))⟩,
    ⟨(some 5), none, (.mv (.c (.v (.slice none 0 0))))⟩,
    ⟨(some 6), none, (.mv (.t 23))⟩] false) .ret)) .skip)) (.seq [4, 5, 6] (.region [⟨(some 24), none, (.mv (.t 8))⟩,
    ⟨(some 25), none, (.mv (.t 7))⟩,
    ⟨(some 26), none, (.nilck (.t 25))⟩,
    ⟨(some 27), none, (.faddr 0 (.t 26))⟩,
    ⟨(some 28), none, (.load none (.t 27))⟩,
    ⟨(some 29), none, (.call (.c (.fn 27 [])) [(.t 28)])⟩,
    ⟨(some 4), none, (.mv (.t 24))⟩,
    ⟨(some 5), none, (.mv (.t 29))⟩,
    ⟨(some 6), none, (.mv (.c (.v (.int .i64 0))))⟩] false) .ret)))))⟩
/- (*standby/wire.cursor).text -/
def s72 : SFn := 
  ⟨.whole, 1, [(.tmp 2), (.tmp 3)], (.seq [0] (.region [⟨(some 2), none, (.mv (.c (.v (.slice none 0 0))))⟩,
    ⟨(some 3), none, (.mv (.c (.v (.int .i64 0))))⟩] false) (.seq [0, 4, 5] (.region [⟨(some 8), none, (.mv (.t 0))⟩,
    ⟨(some 9), none, (.call (.c (.fn 84 [])) [(.t 8)])⟩,
    ⟨(some 7), none, (.mv (.t 9))⟩,
    ⟨(some 10), none, (.extract (.t 7) 0)⟩,
    ⟨(some 11), none, (.extract (.t 7) 1)⟩,
    ⟨(some 4), none, (.mv (.t 10))⟩,
    ⟨(some 5), none, (.mv (.t 11))⟩] false) (.seq [0, 4] (.seq [0, 4, 5, 13] (.region [⟨(some 12), none, (.mv (.t 5))⟩,
    ⟨(some 13), none, (.bin .neq .none (.t 12) (.c (.v (.int .i64 0))))⟩] false) (.cond (.t 13) (.seq [2, 3] (.region [⟨(some 14), none, (.mv (.t 5))⟩,
    ⟨(some 2), none, (.mv (.c (.v (.slice none 0 0))))⟩,
    ⟨(some 3), none, (.mv (.t 14))⟩] false) .ret) .skip)) (.seq [5, 6] (.region [⟨(some 16), none, (.mv (.t 0))⟩,
    ⟨(some 17), none, (.mv (.t 4))⟩,
    ⟨(some 18), none, (.call (.c (.fn 88 [])) [(.t 16), (.t 17)])⟩,
    ⟨(some 15), none, (.mv (.t 18))⟩,
    ⟨(some 19), none, (.extract (.t 15) 0)⟩,
    ⟨(some 20), none, (.extract (.t 15) 1)⟩,
    ⟨(some 6), none, (.mv (.t 19))⟩,
    ⟨(some 5), none, (.mv (.t 20))⟩] false) (.seq [2, 3] (.region [⟨(some 21), none, (.mv (.t 6))⟩,
    ⟨(some 22), none, (.call (.c (.fn 27 [])) [(.t 21)])⟩,
    ⟨(some 23), none, (.mv (.t 5))⟩,
    ⟨(some 2), none, (.mv (.t 22))⟩,
    ⟨(some 3), none, (.mv (.t 23))⟩] false) .ret)))))⟩
/- standby/wire.read[[]standby/api.Extent] -/
def s73 : SFn := 
  ⟨.plain, 2, [(.tmp 4), (.tmp 5), (.tmp 6)], (.seq [0, 1] (.region [⟨(some 4), none, (.mv (.c (.v (.slice none 0 0))))⟩,
    ⟨(some 5), none, (.mv (.c (.v (.slice none 0 0))))⟩,
    ⟨(some 6), none, (.mv (.c (.v (.int .i64 0))))⟩] false) (.seq [1, 7] (.region [⟨(some 11), none, (.mv (.t 0))⟩,
    ⟨(some 12), none, (.build [(.v (.slice none 0 0))] [(0, (1, (.t 11)))])⟩,
    ⟨(some 13), none, (.box (.t 12))⟩,
    ⟨(some 7), none, (.mv (.t 13))⟩] false) (.seq [7, 8, 9] (.region [⟨(some 15), none, (.mv (.t 1))⟩,
    ⟨(some 16), none, (.mv (.t 7))⟩,
    ⟨(some 17), none, (.call (.t 15) [(.t 16)])⟩,
    ⟨(some 14), none, (.mv (.t 17))⟩,
    ⟨(some 18), none, (.extract (.t 14) 0)⟩,
    ⟨(some 19), none, (.extract (.t 14) 1)⟩,
    ⟨(some 8), none, (.mv (.t 18))⟩,
    ⟨(some 9), none, (.mv (.t 19))⟩] false) (.seq [7, 8] (.seq [7, 8, 9, 21] (.region [⟨(some 20), none, (.mv (.t 9))⟩,
    ⟨(some 21), none, (.bin .neq .none (.t 20) (.c (.v (.int .i64 0))))⟩] false) (.cond (.t 21) (.seq [9, 10] (.region [⟨(some 10), none, (.mv (.c (.v (.slice none 0 0))))⟩] false) (.seq [4, 5, 6] (.region [⟨(some 22), none, (.mv (.t 10))⟩,
    ⟨(some 23), none, (.mv (.t 9))⟩,
    ⟨(some 4), none, (.mv (.t 22))⟩,
    ⟨(some 5), none, (.mv (.c (.v (.slice none 0 0))))⟩,
    ⟨(some 6), none, (.mv (.t 23))⟩] false) .ret)) .skip)) (.seq [4, 5, 6] (.region [⟨(some 24), none, (.mv (.t 8))⟩,
    ⟨(some 25), none, (.mv (.t 7))⟩,
    ⟨(some 26), none, (.nilck (.t 25))⟩,
    ⟨(some 27), none, (.faddr 0 (.t 26))⟩,
    ⟨(some 28), none, (.load none (.t 27))⟩,
    ⟨(some 29), none, (.call (.c (.fn 27 [])) [(.t 28)])⟩,
    ⟨(some 4), none, (.mv (.t 24))⟩,
    ⟨(some 5), none, (.mv (.t 29))⟩,
    ⟨(some 6), none, (.mv (.c (.v (.int .i64 0))))⟩] false) .ret)))))⟩
/- standby/wire.Extents$1 -/
def s74 : SFn := 
  ⟨.whole, 1, [(.tmp 2), (.tmp 3)], (.seq [0] (.region [⟨(some 2), none, (.mv (.c (.v (.slice none 0 0))))⟩,
    ⟨(some 3), none, (.mv (.c (.v (.int .i64 0))))⟩] false) (.seq [2, 3] (.region [⟨(some 4), none, (.mv (.t 0))⟩,
    ⟨(some 5), none, (.call (.c (.fn 75 [])) [(.t 4), (.c (.fn 76 []))])⟩,
    ⟨(some 6), none, (.extract (.t 5) 0)⟩,
    ⟨(some 7), none, (.extract (.t 5) 1)⟩,
    ⟨(some 2), none, (.mv (.t 6))⟩,
    ⟨(some 3), none, (.mv (.t 7))⟩] false) .ret))⟩
/- standby/wire.list[standby/api.Extent] -/
def s75b0 : SCode := 
  (.seq [0, 1, 8, 19, 20, 21] (.region [⟨(some 21), none, (.bin .lss .none (.t 20) (.t 19))⟩] false) (.seq [0, 1, 8, 19, 20] (.cond (.t 21) .skip (.exit 0)) (.seq [0, 1, 8, 19, 20] (.block 1 (.seq [0, 1, 8, 9, 10, 19, 20] (.region [⟨(some 23), none, (.mv (.t 1))⟩,
    ⟨(some 24), none, (.mv (.t 0))⟩,
    ⟨(some 25), none, (.call (.t 23) [(.t 24)])⟩,
    ⟨(some 22), none, (.mv (.t 25))⟩,
    ⟨(some 26), none, (.extract (.t 22) 0)⟩,
    ⟨(some 27), none, (.extract (.t 22) 1)⟩,
    ⟨(some 9), none, (.alloc [(.v (.int .i64 0)), (.v (.int .i64 0))])⟩,
    ⟨none, none, (.store 2 (.t 9) (.t 26))⟩,
    ⟨(some 10), none, (.mv (.t 27))⟩] false) (.seq [0, 1, 8, 9, 19, 20] (.seq [0, 1, 8, 9, 10, 19, 20, 29] (.region [⟨(some 28), none, (.mv (.t 10))⟩,
    ⟨(some 29), none, (.bin .neq .none (.t 28) (.c (.v (.int .i64 0))))⟩] false) (.cond (.t 29) (.seq [4, 5] (.region [⟨(some 30), none, (.mv (.t 10))⟩,
    ⟨(some 4), none, (.mv (.c (.v (.slice none 0 0))))⟩,
    ⟨(some 5), none, (.mv (.t 30))⟩] false) .ret) .skip)) (.region [⟨(some 31), none, (.mv (.t 8))⟩,
    ⟨(some 32), none, (.load (some 2) (.t 9))⟩,
    ⟨(some 33), none, (.bslice [(.v (.int .i64 0)), (.v (.int .i64 0))] 1 [(0, (2, (.t 32)))])⟩,
    ⟨(some 34), none, (.append 2 16 (.t 31) (.t 33))⟩,
    ⟨(some 8), none, (.mv (.t 34))⟩] false)))) (.region [⟨(some 35), none, (.bin .add .none (.t 20) (.c (.v (.int .i64 1))))⟩,
    ⟨(some 20), none, (.mv (.t 35))⟩] false))))
def s75 : SFn := 
  ⟨.whole, 2, [(.tmp 4), (.tmp 5)], (.seq [0, 1] (.region [⟨(some 4), none, (.mv (.c (.v (.slice none 0 0))))⟩,
    ⟨(some 5), none, (.mv (.c (.v (.int .i64 0))))⟩] false) (.seq [0, 1, 6, 7] (.region [⟨(some 12), none, (.mv (.t 0))⟩,
    ⟨(some 13), none, (.call (.c (.fn 84 [])) [(.t 12)])⟩,
    ⟨(some 11), none, (.mv (.t 13))⟩,
    ⟨(some 14), none, (.extract (.t 11) 0)⟩,
    ⟨(some 15), none, (.extract (.t 11) 1)⟩,
    ⟨(some 6), none, (.mv (.t 14))⟩,
    ⟨(some 7), none, (.mv (.t 15))⟩] false) (.seq [0, 1, 6] (.seq [0, 1, 6, 7, 17] (.region [⟨(some 16), none, (.mv (.t 7))⟩,
    ⟨(some 17), none, (.bin .neq .none (.t 16) (.c (.v (.int .i64 0))))⟩] false) (.cond (.t 17) (.seq [4, 5] (.region [⟨(some 18), none, (.mv (.t 7))⟩,
    ⟨(some 4), none, (.mv (.c (.v (.slice none 0 0))))⟩,
    ⟨(some 5), none, (.mv (.t 18))⟩] false) .ret) .skip)) (.seq [0, 1, 6, 8] (.region [⟨(some 8), none, (.mv (.c (.v (.slice none 0 0))))⟩] false) (.seq [8] (.seq [0, 1, 8, 19, 20] (.region [⟨(some 19), none, (.mv (.t 6))⟩,
    ⟨(some 20), none, (.mv (.c (.v (.int .i64 0))))⟩] false) (.block 0 (.loop [0, 1, 8, 19, 20] s75b0))) (.seq [4, 5] (.region [⟨(some 36), none, (.mv (.t 8))⟩,
    ⟨(some 4), none, (.mv (.t 36))⟩,
    ⟨(some 5), none, (.mv (.c (.v (.int .i64 0))))⟩] false) .ret))))))⟩
/- (*standby/wire.cursor).extent -/
def s76 : SFn := 
  ⟨.whole, 1, [(.cell 2 (some 2)), (.tmp 3)], (.seq [0, 2] (.region [⟨(some 2), none, (.alloc [(.v (.int .i64 0)), (.v (.int .i64 0))])⟩,
    ⟨(some 3), none, (.mv (.c (.v (.int .i64 0))))⟩] false) (.seq [2, 4, 5, 6] (.region [⟨(some 8), none, (.mv (.t 0))⟩,
    ⟨(some 9), none, (.call (.c (.fn 85 [])) [(.t 8)])⟩,
    ⟨(some 7), none, (.mv (.t 9))⟩,
    ⟨(some 10), none, (.extract (.t 7) 0)⟩,
    ⟨(some 11), none, (.extract (.t 7) 1)⟩,
    ⟨(some 12), none, (.extract (.t 7) 2)⟩,
    ⟨(some 4), none, (.mv (.t 10))⟩,
    ⟨(some 5), none, (.mv (.t 11))⟩,
    ⟨(some 6), none, (.mv (.t 12))⟩] false) (.seq [2, 3] (.region [⟨(some 13), none, (.mv (.t 4))⟩,
    ⟨(some 14), none, (.mv (.t 5))⟩,
    ⟨(some 15), none, (.build [(.v (.int .i64 0)), (.v (.int .i64 0))] [(0, (1, (.t 13))), (1, (1, (.t 14)))])⟩,
    ⟨(some 16), none, (.mv (.t 6))⟩,
    ⟨none, none, (.store 2 (.t 2) (.t 15))⟩,
    ⟨(some 3), none, (.mv (.t 16))⟩] false) .ret)))⟩
/- standby/standbyref03.number -/
def s77b0 : SCode := 
  (.seq [0, 5, 6, 7] (.seq [0, 5, 6, 7, 10] (.region [⟨(some 9), none, (.mv (.t 7))⟩,
    ⟨(some 10), none, (.bin .lss .none (.t 9) (.c (.v (.int .i64 8))))⟩] false) (.cond (.t 10) .skip (.exit 0))) (.seq [0, 5, 6, 7] (.block 1 (.seq [0, 5, 6, 7] (.seq [0, 5, 6, 7, 16] (.region [⟨(some 13), none, (.mv (.t 7))⟩,
    ⟨(some 14), none, (.mv (.t 0))⟩,
    ⟨(some 15), none, (.len (.t 14))⟩,
    ⟨(some 16), none, (.bin .geq .none (.t 13) (.t 15))⟩] false) (.cond (.t 16) (.seq [2, 3, 4] (.region [⟨(some 2), none, (.mv (.c (.v (.int .i64 0))))⟩,
    ⟨(some 3), none, (.mv (.c (.v (.int .i64 0))))⟩,
    ⟨(some 4), none, (.mv (.c (.v (.int .i64 10))))⟩] false) .ret) .skip)) (.seq [0, 5, 6, 7, 8] (.region [⟨(some 17), none, (.mv (.t 0))⟩,
    ⟨(some 18), none, (.mv (.t 7))⟩,
    ⟨(some 19), none, (.iaddr 1 none (.t 17) (.t 18))⟩,
    ⟨(some 20), none, (.load none (.t 19))⟩,
    ⟨(some 21), none, (.conv .i64 (.t 20))⟩,
    ⟨(some 8), none, (.mv (.t 21))⟩] false) (.seq [0, 5, 6, 7, 8] (.region [⟨(some 22), none, (.mv (.t 5))⟩,
    ⟨(some 23), none, (.mv (.t 8))⟩,
    ⟨(some 24), none, (.bin .rem .none (.t 23) (.c (.v (.int .i64 128))))⟩,
    ⟨(some 25), none, (.mv (.t 6))⟩,
    ⟨(some 26), none, (.bin .mul .none (.t 24) (.t 25))⟩,
    ⟨(some 27), none, (.bin .add .none (.t 22) (.t 26))⟩,
    ⟨(some 5), none, (.mv (.t 27))⟩] false) (.seq [0, 5, 6, 7] (.seq [0, 5, 6, 7, 8, 29] (.region [⟨(some 28), none, (.mv (.t 8))⟩,
    ⟨(some 29), none, (.bin .lss .none (.t 28) (.c (.v (.int .i64 128))))⟩] false) (.cond (.t 29) (.seq [5, 7] (.seq [5, 7, 39] (.region [⟨(some 30), none, (.mv (.t 8))⟩,
    ⟨(some 31), none, (.bin .eql .none (.t 30) (.c (.v (.int .i64 0))))⟩,
    ⟨(some 32), none, (.mv (.t 31))⟩,
    ⟨(some 33), (some (32, true)), (.mv (.t 7))⟩,
    ⟨(some 34), (some (32, true)), (.bin .gtr .none (.t 33) (.c (.v (.int .i64 0))))⟩,
    ⟨(some 35), none, (.pick (.t 32) (.t 34) (.c (.v (.bool false))))⟩,
    ⟨(some 36), none, (.mv (.t 35))⟩,
    ⟨(some 37), (some (36, false)), (.mv (.t 5))⟩,
    ⟨(some 38), (some (36, false)), (.bin .gtr .none (.t 37) (.c (.v (.int .i64 9007199254740991))))⟩,
    ⟨(some 39), none, (.pick (.t 36) (.c (.v (.bool true))) (.t 38))⟩] false) (.cond (.t 39) (.seq [2, 3, 4] (.region [⟨(some 2), none, (.mv (.c (.v (.int .i64 0))))⟩,
    ⟨(some 3), none, (.mv (.c (.v (.int .i64 0))))⟩,
    ⟨(some 4), none, (.mv (.c (.v (.int .i64 3))))⟩] false) .ret) .skip)) (.seq [2, 3, 4] (.region [⟨(some 40), none, (.mv (.t 5))⟩,
    ⟨(some 41), none, (.mv (.t 7))⟩,
    ⟨(some 42), none, (.bin .add .none (.t 41) (.c (.v (.int .i64 1))))⟩,
    ⟨(some 2), none, (.mv (.t 40))⟩,
    ⟨(some 3), none, (.mv (.t 42))⟩,
    ⟨(some 4), none, (.mv (.c (.v (.int .i64 0))))⟩] false) .ret)) .skip)) (.region [⟨(some 43), none, (.mv (.t 6))⟩,
    ⟨(some 44), none, (.bin .mul .none (.t 43) (.c (.v (.int .i64 128))))⟩,
    ⟨(some 6), none, (.mv (.t 44))⟩] false)))))) (.region [⟨(some 11), none, (.mv (.t 7))⟩,
    ⟨(some 12), none, (.bin .add .none (.t 11) (.c (.v (.int .i64 1))))⟩,
    ⟨(some 7), none, (.mv (.t 12))⟩] false)))
def s77 : SFn := 
  ⟨.plain, 1, [(.tmp 2), (.tmp 3), (.tmp 4)], (.seq [0] (.region [⟨(some 2), none, (.mv (.c (.v (.int .i64 0))))⟩,
    ⟨(some 3), none, (.mv (.c (.v (.int .i64 0))))⟩,
    ⟨(some 4), none, (.mv (.c (.v (.int .i64 0))))⟩] false) (.seq [0, 5, 6] (.region [⟨(some 5), none, (.mv (.c (.v (.int .i64 0))))⟩,
    ⟨(some 6), none, (.mv (.c (.v (.int .i64 1))))⟩] false) (.seq [] (.seq [0, 5, 6, 7] (.region [⟨(some 7), none, (.mv (.c (.v (.int .i64 0))))⟩] false) (.block 0 (.loop [0, 5, 6, 7] s77b0))) (.seq [2, 3, 4] (.region [⟨(some 2), none, (.mv (.c (.v (.int .i64 0))))⟩,
    ⟨(some 3), none, (.mv (.c (.v (.int .i64 0))))⟩,
    ⟨(some 4), none, (.mv (.c (.v (.int .i64 3))))⟩] false) .ret))))⟩
/- standby/standbyref03.rest -/
def s78 : SFn := 
  ⟨.plain, 2, [(.tmp 4)], (.seq [0, 1] (.region [⟨(some 4), none, (.mv (.c (.v (.slice none 0 0))))⟩] false) (.seq [0, 1, 5] (.region [⟨(some 5), none, (.mv (.c (.v (.slice none 0 0))))⟩] false) (.seq [4] (.region [⟨(some 6), none, (.mv (.t 5))⟩,
    ⟨(some 7), none, (.mv (.t 0))⟩,
    ⟨(some 8), none, (.mv (.t 1))⟩,
    ⟨(some 9), none, (.slice 1 (.t 7) (some (.t 8)) none)⟩,
    ⟨(some 10), none, (.append 1 1 (.t 6) (.t 9))⟩,
    ⟨(some 4), none, (.mv (.t 10))⟩] false) .ret)))⟩
/- standby/standbyref03.length -/
def s79 : SFn := 
  ⟨.plain, 1, [(.tmp 2), (.tmp 3), (.tmp 4)], (.seq [0] (.region [⟨(some 2), none, (.mv (.c (.v (.int .i64 0))))⟩,
    ⟨(some 3), none, (.mv (.c (.v (.slice none 0 0))))⟩,
    ⟨(some 4), none, (.mv (.c (.v (.int .i64 0))))⟩] false) (.seq [0, 5, 6] (.region [⟨(some 8), none, (.mv (.t 0))⟩,
    ⟨(some 9), none, (.call (.c (.fn 35 [])) [(.t 8)])⟩,
    ⟨(some 7), none, (.mv (.t 9))⟩,
    ⟨(some 10), none, (.extract (.t 7) 0)⟩,
    ⟨(some 11), none, (.extract (.t 7) 1)⟩,
    ⟨(some 12), none, (.extract (.t 7) 2)⟩,
    ⟨(some 5), none, (.mv (.t 10))⟩,
    ⟨(some 0), none, (.mv (.t 11))⟩,
    ⟨(some 6), none, (.mv (.t 12))⟩] false) (.seq [0, 5, 6] (.seq [0, 5, 6, 18] (.region [⟨(some 13), none, (.mv (.t 6))⟩,
    ⟨(some 14), none, (.bin .eql .none (.t 13) (.c (.v (.int .i64 0))))⟩,
    ⟨(some 15), none, (.mv (.t 14))⟩,
    ⟨(some 16), (some (15, true)), (.mv (.t 5))⟩,
    ⟨(some 17), (some (15, true)), (.bin .gtr .none (.t 16) (.c (.v (.int .i64 65536))))⟩,
    ⟨(some 18), none, (.pick (.t 15) (.t 17) (.c (.v (.bool false))))⟩] false) (.cond (.t 18) (.region [⟨(some 6), none, (.mv (.c (.v (.int .i64 5))))⟩] false) .skip)) (.seq [0, 5] (.seq [0, 5, 6, 20] (.region [⟨(some 19), none, (.mv (.t 6))⟩,
    ⟨(some 20), none, (.bin .neq .none (.t 19) (.c (.v (.int .i64 0))))⟩] false) (.cond (.t 20) (.seq [2, 3, 4] (.region [⟨(some 21), none, (.mv (.t 6))⟩,
    ⟨(some 2), none, (.mv (.c (.v (.int .i64 0))))⟩,
    ⟨(some 3), none, (.mv (.c (.v (.slice none 0 0))))⟩,
    ⟨(some 4), none, (.mv (.t 21))⟩] false) .ret) .skip)) (.seq [2, 3, 4] (.region [⟨(some 22), none, (.mv (.t 5))⟩,
    ⟨(some 23), none, (.mv (.t 0))⟩,
    ⟨(some 2), none, (.mv (.t 22))⟩,
    ⟨(some 3), none, (.mv (.t 23))⟩,
    ⟨(some 4), none, (.mv (.c (.v (.int .i64 0))))⟩] false) .ret)))))⟩
/- standby/standbyref03.SameSectors -/
def s80b0 : SCode := 
  (.seq [0, 1, 5] (.seq [0, 1, 5, 14] (.region [⟨(some 11), none, (.mv (.t 5))⟩,
    ⟨(some 12), none, (.mv (.t 0))⟩,
    ⟨(some 13), none, (.len (.t 12))⟩,
    ⟨(some 14), none, (.bin .lss .none (.t 11) (.t 13))⟩] false) (.cond (.t 14) .skip (.exit 0))) (.seq [0, 1, 5] (.block 1 (.seq [0, 1, 5, 25] (.region [⟨(some 17), none, (.mv (.t 0))⟩,
    ⟨(some 18), none, (.mv (.t 5))⟩,
    ⟨(some 19), none, (.iaddr 8 none (.t 17) (.t 18))⟩,
    ⟨(some 20), none, (.load (some 8) (.t 19))⟩,
    ⟨(some 21), none, (.mv (.t 1))⟩,
    ⟨(some 22), none, (.mv (.t 5))⟩,
    ⟨(some 23), none, (.iaddr 8 none (.t 21) (.t 22))⟩,
    ⟨(some 24), none, (.load (some 8) (.t 23))⟩,
    ⟨(some 25), none, (.bin .neq (.cells 8) (.t 20) (.t 24))⟩] true) (.cond (.t 25) (.seq [4] (.region [⟨(some 4), none, (.mv (.c (.v (.bool false))))⟩] false) .ret) .skip))) (.region [⟨(some 15), none, (.mv (.t 5))⟩,
    ⟨(some 16), none, (.bin .add .none (.t 15) (.c (.v (.int .i64 1))))⟩,
    ⟨(some 5), none, (.mv (.t 16))⟩] false)))
def s80 : SFn := 
  ⟨.plain, 2, [(.tmp 4)], (.seq [0, 1] (.region [⟨(some 4), none, (.mv (.c (.v (.bool false))))⟩] false) (.seq [0, 1] (.seq [0, 1, 10] (.region [⟨(some 6), none, (.mv (.t 0))⟩,
    ⟨(some 7), none, (.len (.t 6))⟩,
    ⟨(some 8), none, (.mv (.t 1))⟩,
    ⟨(some 9), none, (.len (.t 8))⟩,
    ⟨(some 10), none, (.bin .neq .none (.t 7) (.t 9))⟩] false) (.cond (.t 10) (.seq [4] (.region [⟨(some 4), none, (.mv (.c (.v (.bool false))))⟩] false) .ret) .skip)) (.seq [] (.seq [0, 1, 5] (.region [⟨(some 5), none, (.mv (.c (.v (.int .i64 0))))⟩] false) (.block 0 (.loop [0, 1, 5] s80b0))) (.seq [4] (.region [⟨(some 4), none, (.mv (.c (.v (.bool true))))⟩] false) .ret))))⟩
/- slices.IndexFunc[[]int,int] -/
def s81b0 : SCode := 
  (.seq [0, 1, 7, 8, 9] (.region [⟨(some 9), none, (.bin .lss .none (.t 8) (.t 7))⟩] false) (.seq [0, 1, 7, 8] (.cond (.t 9) .skip (.exit 0)) (.seq [0, 1, 7, 8] (.block 1 (.seq [0, 1, 5, 7, 8] (.region [⟨(some 10), none, (.mv (.t 8))⟩,
    ⟨(some 5), none, (.mv (.t 10))⟩] false) (.seq [0, 1, 5, 7, 8, 16] (.region [⟨(some 11), none, (.mv (.t 1))⟩,
    ⟨(some 12), none, (.mv (.t 0))⟩,
    ⟨(some 13), none, (.mv (.t 5))⟩,
    ⟨(some 14), none, (.iaddr 1 none (.t 12) (.t 13))⟩,
    ⟨(some 15), none, (.load none (.t 14))⟩,
    ⟨(some 16), none, (.call (.t 11) [(.t 15)])⟩] false) (.cond (.t 16) (.seq [4] (.region [⟨(some 17), none, (.mv (.t 5))⟩,
    ⟨(some 4), none, (.mv (.t 17))⟩] false) .ret) .skip)))) (.region [⟨(some 18), none, (.bin .add .none (.t 8) (.c (.v (.int .i64 1))))⟩,
    ⟨(some 8), none, (.mv (.t 18))⟩] false))))
def s81 : SFn := 
  ⟨.plain, 2, [(.tmp 4)], (.seq [0, 1] (.region [⟨(some 4), none, (.mv (.c (.v (.int .i64 0))))⟩] false) (.seq [] (.seq [0, 1, 7, 8] (.region [⟨(some 6), none, (.mv (.t 0))⟩,
    ⟨(some 7), none, (.len (.t 6))⟩,
    ⟨(some 8), none, (.mv (.c (.v (.int .i64 0))))⟩] false) (.block 0 (.loop [0, 1, 7, 8] s81b0))) (.seq [4] (.region [⟨(some 4), none, (.mv (.c (.v (.int .i64 (-1)))))⟩] false) .ret)))⟩
/- slices.IndexFunc[[]standby/api.Extent,standby/api.Extent] -/
def s82b0 : SCode := 
  (.seq [0, 1, 7, 8, 9] (.region [⟨(some 9), none, (.bin .lss .none (.t 8) (.t 7))⟩] false) (.seq [0, 1, 7, 8] (.cond (.t 9) .skip (.exit 0)) (.seq [0, 1, 7, 8] (.block 1 (.seq [0, 1, 5, 7, 8] (.region [⟨(some 10), none, (.mv (.t 8))⟩,
    ⟨(some 5), none, (.mv (.t 10))⟩] false) (.seq [0, 1, 5, 7, 8, 16] (.region [⟨(some 11), none, (.mv (.t 1))⟩,
    ⟨(some 12), none, (.mv (.t 0))⟩,
    ⟨(some 13), none, (.mv (.t 5))⟩,
    ⟨(some 14), none, (.iaddr 2 none (.t 12) (.t 13))⟩,
    ⟨(some 15), none, (.load (some 2) (.t 14))⟩,
    ⟨(some 16), none, (.call (.t 11) [(.t 15)])⟩] false) (.cond (.t 16) (.seq [4] (.region [⟨(some 17), none, (.mv (.t 5))⟩,
    ⟨(some 4), none, (.mv (.t 17))⟩] false) .ret) .skip)))) (.region [⟨(some 18), none, (.bin .add .none (.t 8) (.c (.v (.int .i64 1))))⟩,
    ⟨(some 8), none, (.mv (.t 18))⟩] false))))
def s82 : SFn := 
  ⟨.plain, 2, [(.tmp 4)], (.seq [0, 1] (.region [⟨(some 4), none, (.mv (.c (.v (.int .i64 0))))⟩] false) (.seq [] (.seq [0, 1, 7, 8] (.region [⟨(some 6), none, (.mv (.t 0))⟩,
    ⟨(some 7), none, (.len (.t 6))⟩,
    ⟨(some 8), none, (.mv (.c (.v (.int .i64 0))))⟩] false) (.block 0 (.loop [0, 1, 7, 8] s82b0))) (.seq [4] (.region [⟨(some 4), none, (.mv (.c (.v (.int .i64 (-1)))))⟩] false) .ret)))⟩
/- slices.IndexFunc[[]standby/api.Write,standby/api.Write] -/
def s83b0 : SCode := 
  (.seq [0, 1, 7, 8, 9] (.region [⟨(some 9), none, (.bin .lss .none (.t 8) (.t 7))⟩] false) (.seq [0, 1, 7, 8] (.cond (.t 9) .skip (.exit 0)) (.seq [0, 1, 7, 8] (.block 1 (.seq [0, 1, 5, 7, 8] (.region [⟨(some 10), none, (.mv (.t 8))⟩,
    ⟨(some 5), none, (.mv (.t 10))⟩] false) (.seq [0, 1, 5, 7, 8, 16] (.region [⟨(some 11), none, (.mv (.t 1))⟩,
    ⟨(some 12), none, (.mv (.t 0))⟩,
    ⟨(some 13), none, (.mv (.t 5))⟩,
    ⟨(some 14), none, (.iaddr 3 none (.t 12) (.t 13))⟩,
    ⟨(some 15), none, (.load (some 3) (.t 14))⟩,
    ⟨(some 16), none, (.call (.t 11) [(.t 15)])⟩] false) (.cond (.t 16) (.seq [4] (.region [⟨(some 17), none, (.mv (.t 5))⟩,
    ⟨(some 4), none, (.mv (.t 17))⟩] false) .ret) .skip)))) (.region [⟨(some 18), none, (.bin .add .none (.t 8) (.c (.v (.int .i64 1))))⟩,
    ⟨(some 8), none, (.mv (.t 18))⟩] false))))
def s83 : SFn := 
  ⟨.plain, 2, [(.tmp 4)], (.seq [0, 1] (.region [⟨(some 4), none, (.mv (.c (.v (.int .i64 0))))⟩] false) (.seq [] (.seq [0, 1, 7, 8] (.region [⟨(some 6), none, (.mv (.t 0))⟩,
    ⟨(some 7), none, (.len (.t 6))⟩,
    ⟨(some 8), none, (.mv (.c (.v (.int .i64 0))))⟩] false) (.block 0 (.loop [0, 1, 7, 8] s83b0))) (.seq [4] (.region [⟨(some 4), none, (.mv (.c (.v (.int .i64 (-1)))))⟩] false) .ret)))⟩
/- (*standby/wire.cursor).length -/
def s84 : SFn := 
  ⟨.whole, 1, [(.tmp 2), (.tmp 3)], (.seq [0] (.region [⟨(some 2), none, (.mv (.c (.v (.int .i64 0))))⟩,
    ⟨(some 3), none, (.mv (.c (.v (.int .i64 0))))⟩] false) (.seq [4, 5] (.region [⟨(some 7), none, (.mv (.t 0))⟩,
    ⟨(some 8), none, (.call (.c (.fn 61 [])) [(.t 7)])⟩,
    ⟨(some 6), none, (.mv (.t 8))⟩,
    ⟨(some 9), none, (.extract (.t 6) 0)⟩,
    ⟨(some 10), none, (.extract (.t 6) 1)⟩,
    ⟨(some 4), none, (.mv (.t 9))⟩,
    ⟨(some 5), none, (.mv (.t 10))⟩] false) (.seq [4, 5] (.seq [4, 5, 16] (.region [⟨(some 11), none, (.mv (.t 5))⟩,
    ⟨(some 12), none, (.bin .eql .none (.t 11) (.c (.v (.int .i64 0))))⟩,
    ⟨(some 13), none, (.mv (.t 12))⟩,
    ⟨(some 14), (some (13, true)), (.mv (.t 4))⟩,
    ⟨(some 15), (some (13, true)), (.bin .gtr .none (.t 14) (.c (.v (.int .i64 65536))))⟩,
    ⟨(some 16), none, (.pick (.t 13) (.t 15) (.c (.v (.bool false))))⟩] false) (.cond (.t 16) (.region [⟨(some 5), none, (.mv (.c (.v (.int .i64 5))))⟩] false) .skip)) (.seq [2, 3] (.region [⟨(some 17), none, (.mv (.t 4))⟩,
    ⟨(some 18), none, (.mv (.t 5))⟩,
    ⟨(some 2), none, (.mv (.t 17))⟩,
    ⟨(some 3), none, (.mv (.t 18))⟩] false) .ret))))⟩
/- (*standby/wire.cursor).pair -/
def s85 : SFn := 
  ⟨.whole, 1, [(.tmp 2), (.tmp 3), (.tmp 4)], (.seq [0] (.region [⟨(some 2), none, (.mv (.c (.v (.int .i64 0))))⟩,
    ⟨(some 3), none, (.mv (.c (.v (.int .i64 0))))⟩,
    ⟨(some 4), none, (.mv (.c (.v (.int .i64 0))))⟩] false) (.seq [0, 5, 6] (.region [⟨(some 9), none, (.mv (.t 0))⟩,
    ⟨(some 10), none, (.call (.c (.fn 61 [])) [(.t 9)])⟩,
    ⟨(some 8), none, (.mv (.t 10))⟩,
    ⟨(some 11), none, (.extract (.t 8) 0)⟩,
    ⟨(some 12), none, (.extract (.t 8) 1)⟩,
    ⟨(some 5), none, (.mv (.t 11))⟩,
    ⟨(some 6), none, (.mv (.t 12))⟩] false) (.seq [0, 5] (.seq [0, 5, 6, 14] (.region [⟨(some 13), none, (.mv (.t 6))⟩,
    ⟨(some 14), none, (.bin .neq .none (.t 13) (.c (.v (.int .i64 0))))⟩] false) (.cond (.t 14) (.seq [2, 3, 4] (.region [⟨(some 15), none, (.mv (.t 6))⟩,
    ⟨(some 2), none, (.mv (.c (.v (.int .i64 0))))⟩,
    ⟨(some 3), none, (.mv (.c (.v (.int .i64 0))))⟩,
    ⟨(some 4), none, (.mv (.t 15))⟩] false) .ret) .skip)) (.seq [5, 6, 7] (.region [⟨(some 17), none, (.mv (.t 0))⟩,
    ⟨(some 18), none, (.call (.c (.fn 61 [])) [(.t 17)])⟩,
    ⟨(some 16), none, (.mv (.t 18))⟩,
    ⟨(some 19), none, (.extract (.t 16) 0)⟩,
    ⟨(some 20), none, (.extract (.t 16) 1)⟩,
    ⟨(some 7), none, (.mv (.t 19))⟩,
    ⟨(some 6), none, (.mv (.t 20))⟩] false) (.seq [2, 3, 4] (.region [⟨(some 21), none, (.mv (.t 5))⟩,
    ⟨(some 22), none, (.mv (.t 7))⟩,
    ⟨(some 23), none, (.mv (.t 6))⟩,
    ⟨(some 2), none, (.mv (.t 21))⟩,
    ⟨(some 3), none, (.mv (.t 22))⟩,
    ⟨(some 4), none, (.mv (.t 23))⟩] false) .ret)))))⟩
/- standby/wire.list[standby/api.Sector] -/
def s86b0 : SCode := 
  (.seq [0, 1, 8, 19, 20, 21] (.region [⟨(some 21), none, (.bin .lss .none (.t 20) (.t 19))⟩] false) (.seq [0, 1, 8, 19, 20] (.cond (.t 21) .skip (.exit 0)) (.seq [0, 1, 8, 19, 20] (.block 1 (.seq [0, 1, 8, 9, 10, 19, 20] (.region [⟨(some 23), none, (.mv (.t 1))⟩,
    ⟨(some 24), none, (.mv (.t 0))⟩,
    ⟨(some 25), none, (.call (.t 23) [(.t 24)])⟩,
    ⟨(some 22), none, (.mv (.t 25))⟩,
    ⟨(some 26), none, (.extract (.t 22) 0)⟩,
    ⟨(some 27), none, (.extract (.t 22) 1)⟩,
    ⟨(some 9), none, (.alloc [(.v (.int .u8 0)), (.v (.int .u8 0)), (.v (.int .u8 0)), (.v (.int .u8 0)), (.v (.int .u8 0)), (.v (.int .u8 0)), (.v (.int .u8 0)), (.v (.int .u8 0))])⟩,
    ⟨none, none, (.store 8 (.t 9) (.t 26))⟩,
    ⟨(some 10), none, (.mv (.t 27))⟩] false) (.seq [0, 1, 8, 9, 19, 20] (.seq [0, 1, 8, 9, 10, 19, 20, 29] (.region [⟨(some 28), none, (.mv (.t 10))⟩,
    ⟨(some 29), none, (.bin .neq .none (.t 28) (.c (.v (.int .i64 0))))⟩] false) (.cond (.t 29) (.seq [4, 5] (.region [⟨(some 30), none, (.mv (.t 10))⟩,
    ⟨(some 4), none, (.mv (.c (.v (.slice none 0 0))))⟩,
    ⟨(some 5), none, (.mv (.t 30))⟩] false) .ret) .skip)) (.region [⟨(some 31), none, (.mv (.t 8))⟩,
    ⟨(some 32), none, (.load (some 8) (.t 9))⟩,
    ⟨(some 33), none, (.bslice [(.v (.int .u8 0)), (.v (.int .u8 0)), (.v (.int .u8 0)), (.v (.int .u8 0)), (.v (.int .u8 0)), (.v (.int .u8 0)), (.v (.int .u8 0)), (.v (.int .u8 0))] 1 [(0, (8, (.t 32)))])⟩,
    ⟨(some 34), none, (.append 8 8 (.t 31) (.t 33))⟩,
    ⟨(some 8), none, (.mv (.t 34))⟩] false)))) (.region [⟨(some 35), none, (.bin .add .none (.t 20) (.c (.v (.int .i64 1))))⟩,
    ⟨(some 20), none, (.mv (.t 35))⟩] false))))
def s86 : SFn := 
  ⟨.whole, 2, [(.tmp 4), (.tmp 5)], (.seq [0, 1] (.region [⟨(some 4), none, (.mv (.c (.v (.slice none 0 0))))⟩,
    ⟨(some 5), none, (.mv (.c (.v (.int .i64 0))))⟩] false) (.seq [0, 1, 6, 7] (.region [⟨(some 12), none, (.mv (.t 0))⟩,
    ⟨(some 13), none, (.call (.c (.fn 84 [])) [(.t 12)])⟩,
    ⟨(some 11), none, (.mv (.t 13))⟩,
    ⟨(some 14), none, (.extract (.t 11) 0)⟩,
    ⟨(some 15), none, (.extract (.t 11) 1)⟩,
    ⟨(some 6), none, (.mv (.t 14))⟩,
    ⟨(some 7), none, (.mv (.t 15))⟩] false) (.seq [0, 1, 6] (.seq [0, 1, 6, 7, 17] (.region [⟨(some 16), none, (.mv (.t 7))⟩,
    ⟨(some 17), none, (.bin .neq .none (.t 16) (.c (.v (.int .i64 0))))⟩] false) (.cond (.t 17) (.seq [4, 5] (.region [⟨(some 18), none, (.mv (.t 7))⟩,
    ⟨(some 4), none, (.mv (.c (.v (.slice none 0 0))))⟩,
    ⟨(some 5), none, (.mv (.t 18))⟩] false) .ret) .skip)) (.seq [0, 1, 6, 8] (.region [⟨(some 8), none, (.mv (.c (.v (.slice none 0 0))))⟩] false) (.seq [8] (.seq [0, 1, 8, 19, 20] (.region [⟨(some 19), none, (.mv (.t 6))⟩,
    ⟨(some 20), none, (.mv (.c (.v (.int .i64 0))))⟩] false) (.block 0 (.loop [0, 1, 8, 19, 20] s86b0))) (.seq [4, 5] (.region [⟨(some 36), none, (.mv (.t 8))⟩,
    ⟨(some 4), none, (.mv (.t 36))⟩,
    ⟨(some 5), none, (.mv (.c (.v (.int .i64 0))))⟩] false) .ret))))))⟩
/- (*standby/wire.cursor).sector -/
def s87 : SFn := 
  ⟨.whole, 1, [(.cell 2 (some 8)), (.tmp 3)], (.seq [0, 2] (.region [⟨(some 2), none, (.alloc [(.v (.int .u8 0)), (.v (.int .u8 0)), (.v (.int .u8 0)), (.v (.int .u8 0)), (.v (.int .u8 0)), (.v (.int .u8 0)), (.v (.int .u8 0)), (.v (.int .u8 0))])⟩,
    ⟨(some 3), none, (.mv (.c (.v (.int .i64 0))))⟩] false) (.seq [2, 4, 5] (.region [⟨(some 7), none, (.mv (.t 0))⟩,
    ⟨(some 8), none, (.call (.c (.fn 88 [])) [(.t 7), (.c (.v (.int .i64 8)))])⟩,
    ⟨(some 6), none, (.mv (.t 8))⟩,
    ⟨(some 9), none, (.extract (.t 6) 0)⟩,
    ⟨(some 10), none, (.extract (.t 6) 1)⟩,
    ⟨(some 4), none, (.mv (.t 9))⟩,
    ⟨(some 5), none, (.mv (.t 10))⟩] false) (.seq [2, 4] (.seq [2, 4, 5, 12] (.region [⟨(some 11), none, (.mv (.t 5))⟩,
    ⟨(some 12), none, (.bin .neq .none (.t 11) (.c (.v (.int .i64 0))))⟩] false) (.cond (.t 12) (.seq [2, 3] (.region [⟨(some 13), none, (.build [(.v (.int .u8 0)), (.v (.int .u8 0)), (.v (.int .u8 0)), (.v (.int .u8 0)), (.v (.int .u8 0)), (.v (.int .u8 0)), (.v (.int .u8 0)), (.v (.int .u8 0))] [])⟩,
    ⟨(some 14), none, (.mv (.t 5))⟩,
    ⟨none, none, (.store 8 (.t 2) (.t 13))⟩,
    ⟨(some 3), none, (.mv (.t 14))⟩] false) .ret) .skip)) (.seq [2, 3] (.region [⟨(some 15), none, (.mv (.t 4))⟩,
    ⟨(some 16), none, (.s2ap 8 (.t 15))⟩,
    ⟨(some 17), none, (.load (some 8) (.t 16))⟩,
    ⟨none, none, (.store 8 (.t 2) (.t 17))⟩,
    ⟨(some 3), none, (.mv (.c (.v (.int .i64 0))))⟩] false) .ret))))⟩
/- (*standby/wire.cursor).bytes -/
def s88 : SFn := 
  ⟨.whole, 2, [(.tmp 4), (.tmp 5)], (.seq [0, 1] (.region [⟨(some 4), none, (.mv (.c (.v (.slice none 0 0))))⟩,
    ⟨(some 5), none, (.mv (.c (.v (.int .i64 0))))⟩] false) (.seq [0, 1] (.seq [0, 1, 13] (.region [⟨(some 7), none, (.mv (.t 1))⟩,
    ⟨(some 8), none, (.mv (.t 0))⟩,
    ⟨(some 9), none, (.nilck (.t 8))⟩,
    ⟨(some 10), none, (.faddr 0 (.t 9))⟩,
    ⟨(some 11), none, (.load none (.t 10))⟩,
    ⟨(some 12), none, (.len (.t 11))⟩,
    ⟨(some 13), none, (.bin .gtr .none (.t 7) (.t 12))⟩] false) (.cond (.t 13) (.seq [4, 5] (.region [⟨(some 4), none, (.mv (.c (.v (.slice none 0 0))))⟩,
    ⟨(some 5), none, (.mv (.c (.v (.int .i64 10))))⟩] false) .ret) .skip)) (.seq [0, 1, 6] (.region [⟨(some 14), none, (.mv (.t 0))⟩,
    ⟨(some 15), none, (.nilck (.t 14))⟩,
    ⟨(some 16), none, (.faddr 0 (.t 15))⟩,
    ⟨(some 17), none, (.load none (.t 16))⟩,
    ⟨(some 18), none, (.mv (.t 1))⟩,
    ⟨(some 19), none, (.slice 1 (.t 17) none (some (.t 18)))⟩,
    ⟨(some 6), none, (.mv (.t 19))⟩] false) (.seq [6] (.region [⟨(some 20), none, (.mv (.t 0))⟩,
    ⟨(some 21), none, (.mv (.t 0))⟩,
    ⟨(some 22), none, (.nilck (.t 21))⟩,
    ⟨(some 23), none, (.faddr 0 (.t 22))⟩,
    ⟨(some 24), none, (.load none (.t 23))⟩,
    ⟨(some 25), none, (.mv (.t 1))⟩,
    ⟨(some 26), none, (.slice 1 (.t 24) (some (.t 25)) none)⟩,
    ⟨(some 27), none, (.nilck (.t 20))⟩,
    ⟨(some 28), none, (.faddr 0 (.t 27))⟩,
    ⟨none, none, (.store 1 (.t 28) (.t 26))⟩] false) (.seq [4, 5] (.region [⟨(some 29), none, (.mv (.t 6))⟩,
    ⟨(some 4), none, (.mv (.t 29))⟩,
    ⟨(some 5), none, (.mv (.c (.v (.int .i64 0))))⟩] false) .ret)))))⟩

def T : FuncId → Option SFn
  | 3 => some s3
  | 4 => some s4
  | 5 => some s5
  | 6 => some s6
  | 7 => some s7
  | 8 => some s8
  | 9 => some s9
  | 10 => some s10
  | 11 => some s11
  | 12 => some s12
  | 13 => some s13
  | 14 => some s14
  | 15 => some s15
  | 16 => some s16
  | 17 => some s17
  | 18 => some s18
  | 19 => some s19
  | 20 => some s20
  | 21 => some s21
  | 22 => some s22
  | 23 => some s23
  | 24 => some s24
  | 25 => some s25
  | 26 => some s26
  | 27 => some s27
  | 28 => some s28
  | 29 => some s29
  | 30 => some s30
  | 31 => some s31
  | 32 => some s32
  | 33 => some s33
  | 34 => some s34
  | 35 => some s35
  | 36 => some s36
  | 37 => some s37
  | 38 => some s38
  | 39 => some s39
  | 40 => some s40
  | 41 => some s41
  | 42 => some s42
  | 43 => some s43
  | 44 => some s44
  | 45 => some s45
  | 46 => some s46
  | 47 => some s47
  | 48 => some s48
  | 49 => some s49
  | 50 => some s50
  | 51 => some s51
  | 52 => some s52
  | 53 => some s53
  | 54 => some s54
  | 55 => some s55
  | 56 => some s56
  | 57 => some s57
  | 58 => some s58
  | 59 => some s59
  | 60 => some s60
  | 61 => some s61
  | 62 => some s62
  | 63 => some s63
  | 64 => some s64
  | 65 => some s65
  | 66 => some s66
  | 67 => some s67
  | 68 => some s68
  | 69 => some s69
  | 70 => some s70
  | 71 => some s71
  | 72 => some s72
  | 73 => some s73
  | 74 => some s74
  | 75 => some s75
  | 76 => some s76
  | 77 => some s77
  | 78 => some s78
  | 79 => some s79
  | 80 => some s80
  | 81 => some s81
  | 82 => some s82
  | 83 => some s83
  | 84 => some s84
  | 85 => some s85
  | 86 => some s86
  | 87 => some s87
  | 88 => some s88
  | _ => none

theorem T3 : T 3 = some s3 := rfl
theorem T4 : T 4 = some s4 := rfl
theorem T5 : T 5 = some s5 := rfl
theorem T6 : T 6 = some s6 := rfl
theorem T7 : T 7 = some s7 := rfl
theorem T8 : T 8 = some s8 := rfl
theorem T9 : T 9 = some s9 := rfl
theorem T10 : T 10 = some s10 := rfl
theorem T11 : T 11 = some s11 := rfl
theorem T12 : T 12 = some s12 := rfl
theorem T13 : T 13 = some s13 := rfl
theorem T14 : T 14 = some s14 := rfl
theorem T15 : T 15 = some s15 := rfl
theorem T16 : T 16 = some s16 := rfl
theorem T17 : T 17 = some s17 := rfl
theorem T18 : T 18 = some s18 := rfl
theorem T19 : T 19 = some s19 := rfl
theorem T20 : T 20 = some s20 := rfl
theorem T21 : T 21 = some s21 := rfl
theorem T22 : T 22 = some s22 := rfl
theorem T23 : T 23 = some s23 := rfl
theorem T24 : T 24 = some s24 := rfl
theorem T25 : T 25 = some s25 := rfl
theorem T26 : T 26 = some s26 := rfl
theorem T27 : T 27 = some s27 := rfl
theorem T28 : T 28 = some s28 := rfl
theorem T29 : T 29 = some s29 := rfl
theorem T30 : T 30 = some s30 := rfl
theorem T31 : T 31 = some s31 := rfl
theorem T32 : T 32 = some s32 := rfl
theorem T33 : T 33 = some s33 := rfl
theorem T34 : T 34 = some s34 := rfl
theorem T35 : T 35 = some s35 := rfl
theorem T36 : T 36 = some s36 := rfl
theorem T37 : T 37 = some s37 := rfl
theorem T38 : T 38 = some s38 := rfl
theorem T39 : T 39 = some s39 := rfl
theorem T40 : T 40 = some s40 := rfl
theorem T41 : T 41 = some s41 := rfl
theorem T42 : T 42 = some s42 := rfl
theorem T43 : T 43 = some s43 := rfl
theorem T44 : T 44 = some s44 := rfl
theorem T45 : T 45 = some s45 := rfl
theorem T46 : T 46 = some s46 := rfl
theorem T47 : T 47 = some s47 := rfl
theorem T48 : T 48 = some s48 := rfl
theorem T49 : T 49 = some s49 := rfl
theorem T50 : T 50 = some s50 := rfl
theorem T51 : T 51 = some s51 := rfl
theorem T52 : T 52 = some s52 := rfl
theorem T53 : T 53 = some s53 := rfl
theorem T54 : T 54 = some s54 := rfl
theorem T55 : T 55 = some s55 := rfl
theorem T56 : T 56 = some s56 := rfl
theorem T57 : T 57 = some s57 := rfl
theorem T58 : T 58 = some s58 := rfl
theorem T59 : T 59 = some s59 := rfl
theorem T60 : T 60 = some s60 := rfl
theorem T61 : T 61 = some s61 := rfl
theorem T62 : T 62 = some s62 := rfl
theorem T63 : T 63 = some s63 := rfl
theorem T64 : T 64 = some s64 := rfl
theorem T65 : T 65 = some s65 := rfl
theorem T66 : T 66 = some s66 := rfl
theorem T67 : T 67 = some s67 := rfl
theorem T68 : T 68 = some s68 := rfl
theorem T69 : T 69 = some s69 := rfl
theorem T70 : T 70 = some s70 := rfl
theorem T71 : T 71 = some s71 := rfl
theorem T72 : T 72 = some s72 := rfl
theorem T73 : T 73 = some s73 := rfl
theorem T74 : T 74 = some s74 := rfl
theorem T75 : T 75 = some s75 := rfl
theorem T76 : T 76 = some s76 := rfl
theorem T77 : T 77 = some s77 := rfl
theorem T78 : T 78 = some s78 := rfl
theorem T79 : T 79 = some s79 := rfl
theorem T80 : T 80 = some s80 := rfl
theorem T81 : T 81 = some s81 := rfl
theorem T82 : T 82 = some s82 := rfl
theorem T83 : T 83 = some s83 := rfl
theorem T84 : T 84 = some s84 := rfl
theorem T85 : T 85 = some s85 := rfl
theorem T86 : T 86 = some s86 := rfl
theorem T87 : T 87 = some s87 := rfl
theorem T88 : T 88 = some s88 := rfl

set_option maxRecDepth 100000
theorem t3 : stripFn Try.prog kd 3 Try.f3 = some s3 := by kernel_rfl
theorem t4 : stripFn Try.prog kd 4 Try.f4 = some s4 := by kernel_rfl
theorem t5 : stripFn Try.prog kd 5 Try.f5 = some s5 := by kernel_rfl
theorem t6 : stripFn Try.prog kd 6 Try.f6 = some s6 := by kernel_rfl
theorem t7 : stripFn Try.prog kd 7 Try.f7 = some s7 := by kernel_rfl
theorem t8 : stripFn Try.prog kd 8 Try.f8 = some s8 := by kernel_rfl
theorem t9 : stripFn Try.prog kd 9 Try.f9 = some s9 := by kernel_rfl
theorem t10 : stripFn Try.prog kd 10 Try.f10 = some s10 := by kernel_rfl
theorem t11 : stripFn Try.prog kd 11 Try.f11 = some s11 := by kernel_rfl
theorem t12 : stripFn Try.prog kd 12 Try.f12 = some s12 := by kernel_rfl
theorem t13 : stripFn Try.prog kd 13 Try.f13 = some s13 := by kernel_rfl
theorem t14 : stripFn Try.prog kd 14 Try.f14 = some s14 := by kernel_rfl
theorem t15 : stripFn Try.prog kd 15 Try.f15 = some s15 := by kernel_rfl
theorem t16 : stripFn Try.prog kd 16 Try.f16 = some s16 := by kernel_rfl
theorem t17 : stripFn Try.prog kd 17 Try.f17 = some s17 := by kernel_rfl
theorem t18 : stripFn Try.prog kd 18 Try.f18 = some s18 := by kernel_rfl
theorem t19 : stripFn Try.prog kd 19 Try.f19 = some s19 := by kernel_rfl
theorem t20 : stripFn Try.prog kd 20 Try.f20 = some s20 := by kernel_rfl
theorem t21 : stripFn Try.prog kd 21 Try.f21 = some s21 := by kernel_rfl
theorem t22 : stripFn Try.prog kd 22 Try.f22 = some s22 := by kernel_rfl
theorem t23 : stripFn Try.prog kd 23 Try.f23 = some s23 := by kernel_rfl
theorem t24 : stripFn Try.prog kd 24 Try.f24 = some s24 := by kernel_rfl
theorem t25 : stripFn Try.prog kd 25 Try.f25 = some s25 := by kernel_rfl
theorem t26 : stripFn Try.prog kd 26 Try.f26 = some s26 := by kernel_rfl
theorem t27 : stripFn Try.prog kd 27 Try.f27 = some s27 := by kernel_rfl
theorem t28 : stripFn Try.prog kd 28 Try.f28 = some s28 := by kernel_rfl
theorem t29 : stripFn Try.prog kd 29 Try.f29 = some s29 := by kernel_rfl
theorem t30 : stripFn Try.prog kd 30 Try.f30 = some s30 := by kernel_rfl
theorem t31 : stripFn Try.prog kd 31 Try.f31 = some s31 := by kernel_rfl
theorem t32 : stripFn Try.prog kd 32 Try.f32 = some s32 := by kernel_rfl
theorem t33 : stripFn Try.prog kd 33 Try.f33 = some s33 := by kernel_rfl
theorem t34 : stripFn Try.prog kd 34 Try.f34 = some s34 := by kernel_rfl
theorem t35 : stripFn Try.prog kd 35 Try.f35 = some s35 := by kernel_rfl
theorem t36 : stripFn Try.prog kd 36 Try.f36 = some s36 := by kernel_rfl
theorem t37 : stripFn Try.prog kd 37 Try.f37 = some s37 := by kernel_rfl
theorem t38 : stripFn Try.prog kd 38 Try.f38 = some s38 := by kernel_rfl
theorem t39 : stripFn Try.prog kd 39 Try.f39 = some s39 := by kernel_rfl
theorem t40 : stripFn Try.prog kd 40 Try.f40 = some s40 := by kernel_rfl
theorem t41 : stripFn Try.prog kd 41 Try.f41 = some s41 := by kernel_rfl
theorem t42 : stripFn Try.prog kd 42 Try.f42 = some s42 := by kernel_rfl
theorem t43 : stripFn Try.prog kd 43 Try.f43 = some s43 := by kernel_rfl
theorem t44 : stripFn Try.prog kd 44 Try.f44 = some s44 := by kernel_rfl
theorem t45 : stripFn Try.prog kd 45 Try.f45 = some s45 := by kernel_rfl
theorem t46 : stripFn Try.prog kd 46 Try.f46 = some s46 := by kernel_rfl
theorem t47 : stripFn Try.prog kd 47 Try.f47 = some s47 := by kernel_rfl
theorem t48 : stripFn Try.prog kd 48 Try.f48 = some s48 := by kernel_rfl
theorem t49 : stripFn Try.prog kd 49 Try.f49 = some s49 := by kernel_rfl
theorem t50 : stripFn Try.prog kd 50 Try.f50 = some s50 := by kernel_rfl
theorem t51 : stripFn Try.prog kd 51 Try.f51 = some s51 := by kernel_rfl
theorem t52 : stripFn Try.prog kd 52 Try.f52 = some s52 := by kernel_rfl
theorem t53 : stripFn Try.prog kd 53 Try.f53 = some s53 := by kernel_rfl
theorem t54 : stripFn Try.prog kd 54 Try.f54 = some s54 := by kernel_rfl
theorem t55 : stripFn Try.prog kd 55 Try.f55 = some s55 := by kernel_rfl
theorem t56 : stripFn Try.prog kd 56 Try.f56 = some s56 := by kernel_rfl
theorem t57 : stripFn Try.prog kd 57 Try.f57 = some s57 := by kernel_rfl
theorem t58 : stripFn Try.prog kd 58 Try.f58 = some s58 := by kernel_rfl
theorem t59 : stripFn Try.prog kd 59 Try.f59 = some s59 := by kernel_rfl
theorem t60 : stripFn Try.prog kd 60 Try.f60 = some s60 := by kernel_rfl
theorem t61 : stripFn Try.prog kd 61 Try.f61 = some s61 := by kernel_rfl
theorem t62 : stripFn Try.prog kd 62 Try.f62 = some s62 := by kernel_rfl
theorem t63 : stripFn Try.prog kd 63 Try.f63 = some s63 := by kernel_rfl
theorem t64 : stripFn Try.prog kd 64 Try.f64 = some s64 := by kernel_rfl
theorem t65 : stripFn Try.prog kd 65 Try.f65 = some s65 := by kernel_rfl
theorem t66 : stripFn Try.prog kd 66 Try.f66 = some s66 := by kernel_rfl
theorem t67 : stripFn Try.prog kd 67 Try.f67 = some s67 := by kernel_rfl
theorem t68 : stripFn Try.prog kd 68 Try.f68 = some s68 := by kernel_rfl
theorem t69 : stripFn Try.prog kd 69 Try.f69 = some s69 := by kernel_rfl
theorem t70 : stripFn Try.prog kd 70 Try.f70 = some s70 := by kernel_rfl
theorem t71 : stripFn Try.prog kd 71 Try.f71 = some s71 := by kernel_rfl
theorem t72 : stripFn Try.prog kd 72 Try.f72 = some s72 := by kernel_rfl
theorem t73 : stripFn Try.prog kd 73 Try.f73 = some s73 := by kernel_rfl
theorem t74 : stripFn Try.prog kd 74 Try.f74 = some s74 := by kernel_rfl
theorem t75 : stripFn Try.prog kd 75 Try.f75 = some s75 := by kernel_rfl
theorem t76 : stripFn Try.prog kd 76 Try.f76 = some s76 := by kernel_rfl
theorem t77 : stripFn Try.prog kd 77 Try.f77 = some s77 := by kernel_rfl
theorem t78 : stripFn Try.prog kd 78 Try.f78 = some s78 := by kernel_rfl
theorem t79 : stripFn Try.prog kd 79 Try.f79 = some s79 := by kernel_rfl
theorem t80 : stripFn Try.prog kd 80 Try.f80 = some s80 := by kernel_rfl
theorem t81 : stripFn Try.prog kd 81 Try.f81 = some s81 := by kernel_rfl
theorem t82 : stripFn Try.prog kd 82 Try.f82 = some s82 := by kernel_rfl
theorem t83 : stripFn Try.prog kd 83 Try.f83 = some s83 := by kernel_rfl
theorem t84 : stripFn Try.prog kd 84 Try.f84 = some s84 := by kernel_rfl
theorem t85 : stripFn Try.prog kd 85 Try.f85 = some s85 := by kernel_rfl
theorem t86 : stripFn Try.prog kd 86 Try.f86 = some s86 := by kernel_rfl
theorem t87 : stripFn Try.prog kd 87 Try.f87 = some s87 := by kernel_rfl
theorem t88 : stripFn Try.prog kd 88 Try.f88 = some s88 := by kernel_rfl

theorem hT : ∀ f s, T f = some s → ∃ fn, Try.prog.funcs[f]? = some fn ∧ stripFn Try.prog kd f fn = some s := by
  intro f s h
  unfold T at h
  split at h
  · cases h; exact ⟨_, Try.func3, t3⟩
  · cases h; exact ⟨_, Try.func4, t4⟩
  · cases h; exact ⟨_, Try.func5, t5⟩
  · cases h; exact ⟨_, Try.func6, t6⟩
  · cases h; exact ⟨_, Try.func7, t7⟩
  · cases h; exact ⟨_, Try.func8, t8⟩
  · cases h; exact ⟨_, Try.func9, t9⟩
  · cases h; exact ⟨_, Try.func10, t10⟩
  · cases h; exact ⟨_, Try.func11, t11⟩
  · cases h; exact ⟨_, Try.func12, t12⟩
  · cases h; exact ⟨_, Try.func13, t13⟩
  · cases h; exact ⟨_, Try.func14, t14⟩
  · cases h; exact ⟨_, Try.func15, t15⟩
  · cases h; exact ⟨_, Try.func16, t16⟩
  · cases h; exact ⟨_, Try.func17, t17⟩
  · cases h; exact ⟨_, Try.func18, t18⟩
  · cases h; exact ⟨_, Try.func19, t19⟩
  · cases h; exact ⟨_, Try.func20, t20⟩
  · cases h; exact ⟨_, Try.func21, t21⟩
  · cases h; exact ⟨_, Try.func22, t22⟩
  · cases h; exact ⟨_, Try.func23, t23⟩
  · cases h; exact ⟨_, Try.func24, t24⟩
  · cases h; exact ⟨_, Try.func25, t25⟩
  · cases h; exact ⟨_, Try.func26, t26⟩
  · cases h; exact ⟨_, Try.func27, t27⟩
  · cases h; exact ⟨_, Try.func28, t28⟩
  · cases h; exact ⟨_, Try.func29, t29⟩
  · cases h; exact ⟨_, Try.func30, t30⟩
  · cases h; exact ⟨_, Try.func31, t31⟩
  · cases h; exact ⟨_, Try.func32, t32⟩
  · cases h; exact ⟨_, Try.func33, t33⟩
  · cases h; exact ⟨_, Try.func34, t34⟩
  · cases h; exact ⟨_, Try.func35, t35⟩
  · cases h; exact ⟨_, Try.func36, t36⟩
  · cases h; exact ⟨_, Try.func37, t37⟩
  · cases h; exact ⟨_, Try.func38, t38⟩
  · cases h; exact ⟨_, Try.func39, t39⟩
  · cases h; exact ⟨_, Try.func40, t40⟩
  · cases h; exact ⟨_, Try.func41, t41⟩
  · cases h; exact ⟨_, Try.func42, t42⟩
  · cases h; exact ⟨_, Try.func43, t43⟩
  · cases h; exact ⟨_, Try.func44, t44⟩
  · cases h; exact ⟨_, Try.func45, t45⟩
  · cases h; exact ⟨_, Try.func46, t46⟩
  · cases h; exact ⟨_, Try.func47, t47⟩
  · cases h; exact ⟨_, Try.func48, t48⟩
  · cases h; exact ⟨_, Try.func49, t49⟩
  · cases h; exact ⟨_, Try.func50, t50⟩
  · cases h; exact ⟨_, Try.func51, t51⟩
  · cases h; exact ⟨_, Try.func52, t52⟩
  · cases h; exact ⟨_, Try.func53, t53⟩
  · cases h; exact ⟨_, Try.func54, t54⟩
  · cases h; exact ⟨_, Try.func55, t55⟩
  · cases h; exact ⟨_, Try.func56, t56⟩
  · cases h; exact ⟨_, Try.func57, t57⟩
  · cases h; exact ⟨_, Try.func58, t58⟩
  · cases h; exact ⟨_, Try.func59, t59⟩
  · cases h; exact ⟨_, Try.func60, t60⟩
  · cases h; exact ⟨_, Try.func61, t61⟩
  · cases h; exact ⟨_, Try.func62, t62⟩
  · cases h; exact ⟨_, Try.func63, t63⟩
  · cases h; exact ⟨_, Try.func64, t64⟩
  · cases h; exact ⟨_, Try.func65, t65⟩
  · cases h; exact ⟨_, Try.func66, t66⟩
  · cases h; exact ⟨_, Try.func67, t67⟩
  · cases h; exact ⟨_, Try.func68, t68⟩
  · cases h; exact ⟨_, Try.func69, t69⟩
  · cases h; exact ⟨_, Try.func70, t70⟩
  · cases h; exact ⟨_, Try.func71, t71⟩
  · cases h; exact ⟨_, Try.func72, t72⟩
  · cases h; exact ⟨_, Try.func73, t73⟩
  · cases h; exact ⟨_, Try.func74, t74⟩
  · cases h; exact ⟨_, Try.func75, t75⟩
  · cases h; exact ⟨_, Try.func76, t76⟩
  · cases h; exact ⟨_, Try.func77, t77⟩
  · cases h; exact ⟨_, Try.func78, t78⟩
  · cases h; exact ⟨_, Try.func79, t79⟩
  · cases h; exact ⟨_, Try.func80, t80⟩
  · cases h; exact ⟨_, Try.func81, t81⟩
  · cases h; exact ⟨_, Try.func82, t82⟩
  · cases h; exact ⟨_, Try.func83, t83⟩
  · cases h; exact ⟨_, Try.func84, t84⟩
  · cases h; exact ⟨_, Try.func85, t85⟩
  · cases h; exact ⟨_, Try.func86, t86⟩
  · cases h; exact ⟨_, Try.func87, t87⟩
  · cases h; exact ⟨_, Try.func88, t88⟩
  · cases h

theorem hmix : Try.prog.follows .mixedOrders = true := by kernel_rfl

/-- What the evaluator answers, a call of the program comes to. -/
theorem calls : CallOk Try.prog (callL T) := callL_sound hmix hT

end VS
end Go.Proofs.Ytohfbjgcfbkgnaa
